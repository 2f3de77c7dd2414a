/- The law LedgerNil: its walk. -/
import Derived.Test.YtpndkelbchjkiaaLm
import Derived.Deep.Cut
set_option linter.unusedVariables false
set_option linter.unusedSimpArgs false
namespace Go.Proofs.Ytpndkelbchjkiaa
open Go.RowKit Go.Ps
structure Pl where
  kind : Int
  a : Int
  b : Int
  n : Int
def Pl.v (o : Pl) : Value := .agg #[.int .i64 o.kind, .int .i64 o.a, .int .i64 o.b, .int .u64 o.n]
section
open Go.Joins Go.WideShapes
variable {H : Type} {enc : TypeId × Value → H} {W : World} {base : Nat} {spare : Nat → Bool} {held : Bool}
theorem open_op {r : Reach} {b0 : Nat} {v : Value} {d : DataW H} {p : List MemPlace} (hv : Value.okWide Try.prog W r b0 53 v) (h : DataW.Trod enc Try.prog W base spare held 53 v d p) : ∃ z : Pl, v = z.v ∧ True := by
  obtain ⟨v0, v1, v2, v3, y0, y1, y2, y3, n, rfl, _, _, h0, h1, h2, h3⟩ := open_agg4 Try.underlying53 (by kernel_rfl) (by kernel_rfl) hv h
  obtain ⟨a0, e0, _, w0⟩ := DataW.trod_int Try.underlying3 h0
  obtain ⟨a1, e1, _, w1⟩ := DataW.trod_int Try.underlying3 h1
  obtain ⟨a2, e2, _, w2⟩ := DataW.trod_int Try.underlying3 h2
  obtain ⟨a3, e3, _, w3⟩ := DataW.trod_int Try.underlying24 h3
  simp only [List.cons.injEq, and_true] at e0 e1 e2 e3
  subst e0 e1 e2 e3
  exact ⟨⟨a0, a1, a2, a3⟩, rfl, trivial⟩
end
set_option maxRecDepth 20000 in
set_option maxHeartbeats 2000000 in
theorem ledgerNil_walk (z : Pl) (w : World) (hz : True) : Calls Try.prog 7 #[z.v] w fun e w' => e = .returned (.bool true) ∧ Below w.heap.size w w' := by
  obtain ⟨k, a, b, n⟩ := z
  unfold Pl.v
  go_enter Try.func7, Try.ntmps7
  go_wp2_with fail
  refine (awake_any _).mono ?_
  rintro e w1 ⟨rfl, hC⟩
  have c := chg_heap0 hC (heap_alloc_at w _)
  have HC := Lib.hid (((Chg.refl (fun _ => False) w).alloc _).trans hC (fun _ _ => id))
  obtain ⟨g, hg⟩ : ∃ g, g = w.heap.size := ⟨_, rfl⟩
  rw [← hg] at c ⊢
  clear hC hg
  obtain ⟨x0, x1, x2, x3⟩ := read4 c
  go_wp2_with fail
  refine (account_nil _ _).mono ?_
  rintro e w2 ⟨rfl, hC⟩
  have c2 := chg_heap0 hC (c)
  have HC2 := Lib.hid ((HC.out).trans hC (fun _ _ => id))
  clear hC
  go_upto_region 5 with (fail)
  clear x0 x1 x2 x3
  obtain ⟨x0, x1, x2, x3⟩ := read4 (heap_alloc_ne (o := .cells #[.int .u64 0, .int .u64 0, .int .u64 0, .slice none 0 0] 34) c2)
  go_wp2_with fail
  refine (withdraw_nil _ _ _).mono ?_
  rintro e w3 ⟨rfl, hC⟩
  have c3 := chg_heap0 hC (heap_alloc_ne c2)
  have HC3 := Lib.hid (((HC2.out.alloc _)).trans hC (fun _ _ => id))
  clear hC
  obtain ⟨x0, x1, x2, x3⟩ := read4 c3
  go_wp2_with fail
  refine (slash_nil _ _ _).mono ?_
  rintro e w4 ⟨rfl, hC⟩
  have c4 := chg_heap0 hC (c3)
  have HC4 := Lib.hid ((HC3.out).trans hC (fun _ _ => id))
  clear hC
  obtain ⟨x0, x1, x2, x3⟩ := read4 c4
  clear c c2 c3 HC HC2 HC3
  go_wp2_with fail
  refine (transfer_nil _ _ _ _).mono ?_
  rintro e w5 ⟨rfl, hC⟩
  clear x0 x1 x2 x3
  have c5 := chg_heap0 hC c4
  have HC5 := Lib.hid (HC4.out.trans hC (fun _ _ => id))
  clear hC HC4 c4
  obtain ⟨x0, x1, x2, x3⟩ := read4 c5
  go_wp2_with fail
  refine (bond_nil _ _ _).mono ?_
  rintro e w6 ⟨rfl, hC⟩
  clear x0 x1 x2 x3
  have c6 := chg_heap0 hC c5
  have HC6 := Lib.hid (HC5.out.trans hC (fun _ _ => id))
  clear hC HC5 c5
  obtain ⟨x0, x1, x2, x3⟩ := read4 c6
  go_wp2_with fail
  refine (unbond_nil _ _ _ _).mono ?_
  rintro e w7 ⟨rfl, hC⟩
  clear x0 x1 x2 x3
  have c7 := chg_heap0 hC c6
  have HC7 := Lib.hid (HC6.out.trans hC (fun _ _ => id))
  clear hC HC6 c6
  obtain ⟨x0, x1, x2, x3⟩ := read4 c7
  go_wp2_with fail
  refine (deposit_nil _ _ _).mono ?_
  rintro e w8 ⟨rfl, hC⟩
  clear x0 x1 x2 x3
  have c8 := chg_heap0 hC c7
  have HC8 := Lib.hid (HC7.out.trans hC (fun _ _ => id))
  clear hC HC7 c7
  obtain ⟨x0, x1, x2, x3⟩ := read4 c8
  go_wp2_with fail
  refine (release_nil _ _ _).mono ?_
  rintro e w9 ⟨rfl, hC⟩
  clear x0 x1 x2 x3
  have c9 := chg_heap0 hC c8
  have HC9 := Lib.hid (HC8.out.trans hC (fun _ _ => id))
  clear hC HC8 c8
  obtain ⟨x0, x1, x2, x3⟩ := read4 c9
  go_wp2_with fail
  refine (forfeit_nil _ _ _).mono ?_
  rintro e w10 ⟨rfl, hC⟩
  clear x0 x1 x2 x3
  have c10 := chg_heap0 hC c9
  have HC10 := Lib.hid (HC9.out.trans hC (fun _ _ => id))
  clear hC HC9 c9
  obtain ⟨x0, x1, x2, x3⟩ := read4 c10
  go_wp2_with fail
  refine (mint_nil _ _).mono ?_
  rintro e w11 ⟨rfl, hC⟩
  clear x0 x1 x2 x3
  have c11 := chg_heap0 hC c10
  have HC11 := Lib.hid (HC10.out.trans hC (fun _ _ => id))
  clear hC HC10 c10
  obtain ⟨x0, x1, x2, x3⟩ := read4 c11
  go_wp2_with fail
  refine (pay_nil _ _ _).mono ?_
  rintro e w12 ⟨rfl, hC⟩
  clear x0 x1 x2 x3
  have c12 := chg_heap0 hC c11
  have HC12 := Lib.hid (HC11.out.trans hC (fun _ _ => id))
  clear hC HC11 c11
  obtain ⟨x0, x1, x2, x3⟩ := read4 c12
  go_wp2_with fail
  refine (keep_nil _ _).mono ?_
  rintro e w13 ⟨rfl, hC⟩
  clear x0 x1 x2 x3
  have c13 := chg_heap0 hC c12
  have HC13 := Lib.hid (HC12.out.trans hC (fun _ _ => id))
  clear hC HC12 c12
  obtain ⟨x0, x1, x2, x3⟩ := read4 c13
  go_wp2_with fail
  refine (accounts_nil _).mono ?_
  rintro e w14 ⟨rfl, hC⟩
  clear x0 x1 x2 x3
  have c14 := chg_heap0 hC c13
  have HC14 := Lib.hid (HC13.out.trans hC (fun _ _ => id))
  clear hC HC13 c13
  obtain ⟨x0, x1, x2, x3⟩ := read4 c14
  go_wp2_with fail
  refine (treasury_nil _).mono ?_
  rintro e w15 ⟨rfl, hC⟩
  clear x0 x1 x2 x3
  have c15 := chg_heap0 hC c14
  have HC15 := Lib.hid (HC14.out.trans hC (fun _ _ => id))
  clear hC HC14 c14
  obtain ⟨x0, x1, x2, x3⟩ := read4 c15
  go_wp2_with fail
  refine (pot_nil _).mono ?_
  rintro e w16 ⟨rfl, hC⟩
  clear x0 x1 x2 x3
  have c16 := chg_heap0 hC c15
  have HC16 := Lib.hid (HC15.out.trans hC (fun _ _ => id))
  clear hC HC15 c15
  obtain ⟨x0, x1, x2, x3⟩ := read4 c16
  go_wp2_with fail
  refine (issuance_nil _).mono ?_
  rintro e w17 ⟨rfl, hC⟩
  clear x0 x1 x2 x3
  have c17 := chg_heap0 hC c16
  have HC17 := Lib.hid (HC16.out.trans hC (fun _ _ => id))
  clear hC HC16 c16
  obtain ⟨x0, x1, x2, x3⟩ := read4 c17
  go_wp2
  go_ret
  exact ⟨rfl, chg_to_below HC17.out⟩
end Go.Proofs.Ytpndkelbchjkiaa
