/- A chain of numbers: its handles. -/
import Derived.Test.YthoagpagnldmeaaCo
set_option linter.unusedVariables false
set_option linter.unusedSimpArgs false
namespace Go.Proofs.Ythoagpagnldmeaa
open Go.RowKit Go.Ps
theorem info3 : (Try.prog.info? 3).map (fun i => (i.zero, i.size, i.bytes)) = some (some (.int .i64 0), 1, 8) := by kernel_rfl
def lenOf : Value → Nat
  | .slice _ n _ => n
  | _ => 0
theorem handles_nil (w : World) : Calls Try.prog 86 #[.pointer none] w fun e w' => e = .returned (.slice none 0 0) ∧ w' = w := by
  go_enter Try.func86, Try.ntmps86
  go_wp2
  go_ret
  exact ⟨rfl, rfl⟩
set_option maxRecDepth 20000 in
set_option maxHeartbeats 1000000 in
theorem handles_any {w : World} {g : Nat} {mp : Option Nat} {X : List Mem} {n : Int} (h : ChW 95 54 w g mp X n) (hX : X.length ≤ 1000000) :
    Calls Try.prog 86 #[.pointer (some ⟨g, 0, none⟩)] w fun e w' => ∃ v, e = .returned v ∧ New 3 .i64 w w' v (X.map (·.h)) := by
  obtain ⟨x0, x1, x2, x3⟩ := read4 h.row.cell
  have H := Lib.hid h
  have HX := Lib.hid hX
  clear h hX
  go_enter Try.func86, Try.ntmps86
  go_wp2
  go_loopw [3, 4] (fun v m wr => ∃ (P S : List Mem) (L : Nat) (A : Option Addr) (c : Nat), X = P ++ S ∧ v = .slice A L c ∧ m = ptr (hd S none) ∧ New 3 .i64 w wr (.slice A L c) (P.map (·.h))) (fun v _ _ => X.length - lenOf v)
  case atStart => exact ⟨[], X, 0, none, 0, rfl, rfl, rfl, New.nil _ _ _⟩
  case round =>
    obtain ⟨P, S, L, A, c, hPS, rfl, rfl, hN⟩ := hrel
    have hL := (New.cap hN).1
    rw [List.length_map] at hL
    have hXL : X.length = L + S.length := by rw [hPS, hL]; simp
    cases S with
    | nil =>
      rw [List.append_nil] at hPS
      rw [← hPS] at hN
      have HN := Lib.hid hN
      simp only [hd_nil, ptr_none]
      clear hN hL hXL hPS
      go_wp2
      go_ret
      exact ⟨_, rfl, HN.out⟩
    | cons x S =>
      have hseg := (H.out.keep hN.2.1 (fun _ _ => id)).row.seg
      rw [hPS] at hseg
      have hnode := hseg.node
      obtain ⟨y0, y1, y2, y3⟩ := read4 hnode
      have hb := HX.out
      obtain ⟨A2, c2, w2, hap, hN2⟩ := hN.push (P := Try.prog) (t := 82) Try.underlying82 info3 (by rw [List.length_map]; exact hL.symm) x.h (by omega) (by omega)
      have hseg2 := (H.out.keep hN2.2.1 (fun _ _ => id)).row.seg
      rw [hPS] at hseg2
      obtain ⟨z0, z1, z2, z3⟩ := read4 hseg2.node
      simp only [hd_cons, ptr_some]
      have HN2 := Lib.hid hN2
      have HL := Lib.hid hXL
      have HP := Lib.hid hPS
      clear hN hN2 hL hXL hPS hseg hseg2 hnode hb
      go_wp2_with (at_builtin; refine wpList_append_run rfl _ _ 82 rfl _ _ _ _ rfl rfl hap ?_)
      go_roundw
      case rel => exact ⟨P ++ [x], S, L + 1, A2, c2, by rw [HP.out]; simp, rfl, rfl, by simpa using HN2.out⟩
      case measure =>
        have := HL.out
        simp only [List.length_cons] at this
        simp only [lenOf]
        omega
end Go.Proofs.Ythoagpagnldmeaa
