/- The ledger of nil. -/
import Derived.Test.YtpndkelbchjkiaaProg
import Derived.Test.YtpndkelbchjkiaaK4
import Derived.Test.YtpndkelbchjkiaaRd
import Derived.Outline
import Derived.RegionTactic
import Derived.ChangeAlike
import Derived.Deep.QuietTactic
import Derived.BigQuiet
import Derived.StillTailTactics
import Derived.Deep.RegionHeld3
import Derived.OpenShut
set_option linter.unusedVariables false
set_option linter.unusedSimpArgs false
namespace Go.Proofs.Ytpndkelbchjkiaa
open Go.RowKit Go.Ps
def NoPost (v : Value) (w : World) (e : Ending) (w' : World) : Prop := e = .returned v ∧ Chg (fun _ => False) w w'
theorem find_nil (S : Value) (w : World) : Calls Try.prog 31 #[.pointer none, S] w (NoPost (.int .i64 1) w) := by
  go_enter Try.func31, Try.ntmps31
  go_wp2
  go_ret
  exact ⟨rfl, (Chg.refl _ w).alloc _⟩
theorem accounts_nil (w : World) : Calls Try.prog 28 #[.pointer none] w (NoPost (.int .i64 0) w) := by
  go_enter Try.func28, Try.ntmps28
  go_wp2
  go_ret
  exact ⟨rfl, Chg.refl _ w⟩
theorem treasury_nil (w : World) : Calls Try.prog 16 #[.pointer none] w (NoPost (.int .u64 0) w) := by
  go_enter Try.func16, Try.ntmps16
  go_wp2
  go_ret
  exact ⟨rfl, Chg.refl _ w⟩
theorem pot_nil (w : World) : Calls Try.prog 29 #[.pointer none] w (NoPost (.int .u64 0) w) := by
  go_enter Try.func29, Try.ntmps29
  go_wp2
  go_ret
  exact ⟨rfl, Chg.refl _ w⟩
theorem issuance_nil (w : World) : Calls Try.prog 14 #[.pointer none] w (NoPost (.int .u64 0) w) := by
  go_enter Try.func14, Try.ntmps14
  go_wp2
  go_ret
  exact ⟨rfl, Chg.refl _ w⟩
theorem mint_nil (n : Int) (w : World) : Calls Try.prog 20 #[.pointer none, .int .u64 n] w (NoPost (.int .i64 1) w) := by
  go_enter Try.func20, Try.ntmps20
  go_wp2
  go_ret
  exact ⟨rfl, Chg.refl _ w⟩
theorem keep_nil (n : Int) (w : World) : Calls Try.prog 26 #[.pointer none, .int .u64 n] w (NoPost (.int .i64 1) w) := by
  go_enter Try.func26, Try.ntmps26
  go_wp2
  go_ret
  exact ⟨rfl, Chg.refl _ w⟩
theorem bond_nil (a n : Int) (w : World) : Calls Try.prog 10 #[.pointer none, .int .i64 a, .int .u64 n] w (NoPost (.int .i64 1) w) := by
  go_enter Try.func10, Try.ntmps10
  go_wp2_with fail
  refine (find_nil _ _).mono ?_
  rintro e w1 ⟨rfl, hC⟩
  have HC := Lib.hid hC
  clear hC
  go_wp2
  go_ret
  refine ⟨rfl, Chg.trans ?_ HC.out (fun _ _ => id)⟩
  repeat (first | exact Chg.refl _ _ | apply Chg.alloc)
theorem deposit_nil (a n : Int) (w : World) : Calls Try.prog 22 #[.pointer none, .int .i64 a, .int .u64 n] w (NoPost (.int .i64 1) w) := by
  go_enter Try.func22, Try.ntmps22
  go_wp2_with fail
  refine (find_nil _ _).mono ?_
  rintro e w1 ⟨rfl, hC⟩
  have HC := Lib.hid hC
  clear hC
  go_wp2
  go_ret
  refine ⟨rfl, Chg.trans ?_ HC.out (fun _ _ => id)⟩
  repeat (first | exact Chg.refl _ _ | apply Chg.alloc)
theorem release_nil (a n : Int) (w : World) : Calls Try.prog 23 #[.pointer none, .int .i64 a, .int .u64 n] w (NoPost (.int .i64 1) w) := by
  go_enter Try.func23, Try.ntmps23
  go_wp2_with fail
  refine (find_nil _ _).mono ?_
  rintro e w1 ⟨rfl, hC⟩
  have HC := Lib.hid hC
  clear hC
  go_wp2
  go_ret
  refine ⟨rfl, Chg.trans ?_ HC.out (fun _ _ => id)⟩
  repeat (first | exact Chg.refl _ _ | apply Chg.alloc)
theorem forfeit_nil (a n : Int) (w : World) : Calls Try.prog 24 #[.pointer none, .int .i64 a, .int .u64 n] w (NoPost (.int .i64 1) w) := by
  go_enter Try.func24, Try.ntmps24
  go_wp2_with fail
  refine (find_nil _ _).mono ?_
  rintro e w1 ⟨rfl, hC⟩
  have HC := Lib.hid hC
  clear hC
  go_wp2
  go_ret
  refine ⟨rfl, Chg.trans ?_ HC.out (fun _ _ => id)⟩
  repeat (first | exact Chg.refl _ _ | apply Chg.alloc)
theorem pay_nil (a n : Int) (w : World) : Calls Try.prog 25 #[.pointer none, .int .i64 a, .int .u64 n] w (NoPost (.int .i64 1) w) := by
  go_enter Try.func25, Try.ntmps25
  go_wp2_with fail
  refine (find_nil _ _).mono ?_
  rintro e w1 ⟨rfl, hC⟩
  have HC := Lib.hid hC
  clear hC
  go_wp2
  go_ret
  refine ⟨rfl, Chg.trans ?_ HC.out (fun _ _ => id)⟩
  repeat (first | exact Chg.refl _ _ | apply Chg.alloc)
theorem transfer_nil (a b n : Int) (w : World) : Calls Try.prog 21 #[.pointer none, .int .i64 a, .int .i64 b, .int .u64 n] w (NoPost (.int .i64 1) w) := by
  go_enter Try.func21, Try.ntmps21
  go_wp2_with fail
  refine (find_nil _ _).mono ?_
  rintro e w1 ⟨rfl, hC⟩
  have HC := Lib.hid hC
  clear hC
  go_wp2
  go_ret
  refine ⟨rfl, Chg.trans ?_ HC.out (fun _ _ => id)⟩
  repeat (first | exact Chg.refl _ _ | apply Chg.alloc)
theorem unbond_nil (a n b : Int) (w : World) : Calls Try.prog 11 #[.pointer none, .int .i64 a, .int .u64 n, .int .i64 b] w (NoPost (.int .i64 1) w) := by
  go_enter Try.func11, Try.ntmps11
  go_wp2_with fail
  refine (find_nil _ _).mono ?_
  rintro e w1 ⟨rfl, hC⟩
  have HC := Lib.hid hC
  clear hC
  go_wp2
  go_ret
  refine ⟨rfl, Chg.trans ?_ HC.out (fun _ _ => id)⟩
  repeat (first | exact Chg.refl _ _ | apply Chg.alloc)
theorem withdraw_nil (a b : Int) (w : World) : Calls Try.prog 13 #[.pointer none, .int .i64 a, .int .i64 b] w (NoPost (.tuple #[.int .u64 0, .int .i64 1]) w) := by
  go_enter Try.func13, Try.ntmps13
  go_wp2_with fail
  refine (find_nil _ _).mono ?_
  rintro e w1 ⟨rfl, hC⟩
  have HC := Lib.hid hC
  clear hC
  go_wp2
  refine bodyPost_ret (v := .tuple #[.int .u64 0, .int .i64 1]) (by simp [results, Try.results13, go_sem]) rfl ⟨rfl, Chg.trans ?_ HC.out (fun _ _ => id)⟩
  repeat (first | exact Chg.refl _ _ | apply Chg.alloc)
theorem slash_nil (a n : Int) (w : World) : Calls Try.prog 15 #[.pointer none, .int .i64 a, .int .u64 n] w (NoPost (.tuple #[.int .u64 0, .int .i64 1]) w) := by
  go_enter Try.func15, Try.ntmps15
  go_wp2_with fail
  refine (find_nil _ _).mono ?_
  rintro e w1 ⟨rfl, hC⟩
  have HC := Lib.hid hC
  clear hC
  go_wp2
  refine bodyPost_ret (v := .tuple #[.int .u64 0, .int .i64 1]) (by simp [results, Try.results15, go_sem]) rfl ⟨rfl, Chg.trans ?_ HC.out (fun _ _ => id)⟩
  repeat (first | exact Chg.refl _ _ | apply Chg.alloc)
end Go.Proofs.Ytpndkelbchjkiaa
