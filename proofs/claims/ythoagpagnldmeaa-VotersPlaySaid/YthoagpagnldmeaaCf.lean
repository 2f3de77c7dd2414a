/- A chain of numbers: its methods. -/
import Derived.Test.YthoagpagnldmeaaCp
import Derived.Deep.Cut
import Derived.Deep.DeepCutAuto
import Derived.Deep.RegionLaw
import Derived.Deep.LoopGhost
import Derived.RegionTactic
import Derived.ChangeAlike
set_option linter.unusedVariables false
set_option linter.unusedSimpArgs false
namespace Go.Proofs.Ythoagpagnldmeaa
open Go.RowKit Go.Ps
theorem St.drew {tm tc : TypeId} {V : World} {g : Nat} {mp : Option Nat} {n : Int} {A : List Mem} {m : Mem} {B : List Mem} {qa pb f l pm qm : Option Nat} (h : St tm tc V g mp n A m B qa pb f l pm qm) : St tm tc V.drew g mp n A m B qa pb f l pm qm :=
  ⟨h.cell, h.sa.same (fun _ _ => rfl), h.sb.same (fun _ _ => rfl), h.node⟩
theorem hd_nil (q : Option Nat) : hd [] q = q := rfl
theorem hd_cons (x : Mem) (X : List Mem) (q : Option Nat) : hd (x :: X) q = some x.b := rfl
theorem lst_nil (q : Option Nat) : lst q [] = q := rfl
theorem lst_cons (x : Mem) (X : List Mem) (q : Option Nat) : lst q (x :: X) = lst (some x.b) X := rfl
theorem look_nil0 {P : Program} {t k e : TypeId} {w : World} (ht : P.underlying t = some (.map k e)) (hk : P.underlying k = some (.int .i64)) {z : Value} (hz : (zeroValue e).run P w = .ok z w) (a : Int) (c : Bool) :
    (Instr.lookup t (.map none) (.int .i64 a) c).run P w = .ok (if c then .tuple #[z, .bool false] else z) w := by
  have hck := fun em => MapKept.run_checkKey (P := P) (w := w) hk (k := .int .i64 a) (d := .int .i64) (by trivial) em 9999
  have hfk : (Instr.findKey k (.int .i64 a) []).run P w = .ok none w := by
    simp [Instr.findKey, run_underlying hk, Instr.findNow]
  simp [Instr.lookup, run_underlying ht, hck, hfk, hz, Result.andThen]
theorem frz {w : World} {b : Nat} {cs : Array Value} {t : TypeId} (h : w.heap[b]? = some (.cells cs t (0, 0))) : ∀ j, w.frozen? ⟨b, j, none⟩ = false := fun j => frozen_of h j
/-- What linking and unlinking may write. -/
def Wr (g : Nat) (A : List Mem) (m : Mem) (B : List Mem) (k : Nat) : Prop := k = g ∨ k = m.b ∨ In A k ∨ In B k
theorem Wr.snoc {g : Nat} {A : List Mem} {x m : Mem} {B : List Mem} : Wr g (A ++ [x]) m B x.b := .inr (.inr (.inl ⟨x, by simp, rfl⟩))
theorem Wr.head {g : Nat} {A : List Mem} {x m : Mem} {B : List Mem} : Wr g A m (x :: B) x.b := .inr (.inr (.inr ⟨x, by simp, rfl⟩))
theorem Wr.m {g : Nat} {A : List Mem} {m : Mem} {B : List Mem} : Wr g A m B m.b := .inr (.inl rfl)
theorem Wr.g {g : Nat} {A : List Mem} {m : Mem} {B : List Mem} : Wr g A m B g := .inl rfl
theorem chg1 {F : Nat → Prop} {a w : World} (h : Chg F a w) {b j : Nat} (hb : F b) (v : Value) : Chg F a (w.setCell ⟨b, j, none⟩ v) := h.setCell (fun _ => hb) v
def LinkPost (tm tc : TypeId) (g : Nat) (mp : Option Nat) (n : Int) (A : List Mem) (m : Mem) (B : List Mem) (W : World) (e : Ending) (w' : World) : Prop :=
  e = .returned (.tuple #[]) ∧ Row tm tc w' g mp (A ++ m :: B) n ∧ Chg (Wr g A m B) W w'
def UnlinkPost (tm tc : TypeId) (g : Nat) (mp : Option Nat) (n : Int) (A : List Mem) (m : Mem) (B : List Mem) (W : World) (e : Ending) (w' : World) : Prop :=
  e = .returned (.tuple #[]) ∧ Row tm tc w' g mp (A ++ B) n ∧ (∃ p q, Node tm w' m p q) ∧ Chg (Wr g A m B) W w'
theorem find_nil (k : Int) (w : World) : Calls Try.prog 72 #[.pointer none, .int .i64 k] w fun e w' => e = .returned (.pointer none) ∧ w' = w := by
  go_enter Try.func72, Try.ntmps72
  go_wp2
  go_ret
  exact ⟨rfl, rfl⟩
theorem zero51 (w : World) : (zeroValue 51).run Try.prog w = .ok (.pointer none) w := by kernel_rfl
theorem find_any {w : World} {g : Nat} {mp : Option Nat} {X : List Mem} {n : Int} (h : ChW 95 54 w g mp X n) (k : Int) :
    Calls Try.prog 72 #[.pointer (some ⟨g, 0, none⟩), .int .i64 k] w fun e w' => e = .returned (ptrM (findH X k)) ∧ w' = w := by
  obtain ⟨x0, x1, x2, x3⟩ := read4 h.row.cell
  cases mp with
  | none =>
    have hX : X = [] := h.map
    subst hX
    have hr := look_nil0 Try.underlying52 Try.underlying3 (zero51 w) k false
    simp only [Bool.false_eq_true, if_false] at hr
    clear h
    go_enter Try.func72, Try.ntmps72
    go_wp2
    go_ret
    exact ⟨rfl, rfl⟩
  | some bm =>
    obtain ⟨ps, hm, hl, hg⟩ := h.map.get
    have hr := hm.look Try.underlying52 Try.underlying3 (zero51 w) k false
    simp only [Bool.false_eq_true, if_false, hg] at hr
    clear h
    go_enter Try.func72, Try.ntmps72
    go_wp2
    go_ret
    exact ⟨rfl, rfl⟩
theorem link_00 {W : World} {g : Nat} {mp : Option Nat} {n : Int} {m : Mem} {p0 q0 : Option Nat} (h : St 95 54 W g mp n [] m [] (hd [] none) (lst none []) (hd ([] ++ []) none) (lst none ([] ++ [])) p0 q0) (a : Apt g [] m []) :
    Calls Try.prog 57 #[.pointer (some ⟨g, 0, none⟩), .pointer (some ⟨m.b, 0, none⟩), ptr (hd [] none)] W (LinkPost 95 54 g mp n [] m [] W) := by
  obtain ⟨x0, x1, x2, x3⟩ := read4 h.cell
  obtain ⟨y0, y1, y2, y3⟩ := read4 h.node
  have f0 := frz h.cell
  have f1 := frz h.node
  have n0 := a.g2
  have fin := (((St.next h a (hd [] none)).ahead a (lst none [])).setL a (some m.b) (some m.b)).setF a (some m.b) (some m.b)
  have fin2 := chg1 (j := 0) (chg1 (j := 1) (chg1 (j := 2) (chg1 (j := 3) (Chg.refl (Wr g [] m []) W) Wr.m (ptr (hd [] none))) Wr.m (ptr (lst none []))) Wr.g (ptr (some m.b))) Wr.g (ptr (some m.b))
  simp only [List.append_assoc, List.cons_append, List.nil_append, List.append_nil, hd_append, lst_append, hd_nil, hd_cons, lst_nil, lst_cons, ptr_none, ptr_some] at *
  unfold LinkPost
  have HR := Lib.hid fin
  have HA := Lib.hid a
  have HC := Lib.hid fin2
  clear h a fin fin2
  go_enter Try.func57, Try.ntmps57
  go_wp2
  go_end0
  refine ⟨rfl, ?_, HC.out⟩
  have hrow := St.toRow (by simpa only [List.append_assoc, List.cons_append, List.nil_append, List.append_nil, hd_append, lst_append, hd_nil, hd_cons, lst_nil, lst_cons, ptr_none, ptr_some] using HR.out) HA.out
  simpa only [List.append_assoc, List.cons_append, List.nil_append, List.append_nil, hd_append, lst_append, hd_nil, hd_cons, lst_nil, lst_cons, ptr_none, ptr_some] using hrow
theorem link_01 {W : World} {g : Nat} {mp : Option Nat} {n : Int} {m : Mem} {p0 q0 : Option Nat} {B : List Mem} {y : Mem} (h : St 95 54 W g mp n [] m (y :: B) (hd (y :: B) none) (lst none []) (hd ([] ++ (y :: B)) none) (lst none ([] ++ (y :: B))) p0 q0) (a : Apt g [] m (y :: B)) :
    Calls Try.prog 57 #[.pointer (some ⟨g, 0, none⟩), .pointer (some ⟨m.b, 0, none⟩), ptr (hd (y :: B) none)] W (LinkPost 95 54 g mp n [] m (y :: B) W) := by
  obtain ⟨x0, x1, x2, x3⟩ := read4 h.cell
  obtain ⟨y0, y1, y2, y3⟩ := read4 h.node
  have f0 := frz h.cell
  have f1 := frz h.node
  have n0 := a.g2
  obtain ⟨z0, z1, z2, z3⟩ := read4 h.sb.1
  have f2 := frz h.sb.1
  have n1 := a.g3 y (by simp)
  have n2 := a.bm y (by simp)
  have fin := (((St.next h a (hd (y :: B) none)).ahead a (lst none [])).setB a (some m.b)).setF a (some m.b) (some m.b)
  have fin2 := chg1 (j := 0) (chg1 (j := 2) (chg1 (j := 2) (chg1 (j := 3) (Chg.refl (Wr g [] m (y :: B)) W) Wr.m (ptr (hd (y :: B) none))) Wr.m (ptr (lst none []))) Wr.head (ptr (some m.b))) Wr.g (ptr (some m.b))
  simp only [List.append_assoc, List.cons_append, List.nil_append, List.append_nil, hd_append, lst_append, hd_nil, hd_cons, lst_nil, lst_cons, ptr_none, ptr_some] at *
  unfold LinkPost
  have HR := Lib.hid fin
  have HA := Lib.hid a
  have HC := Lib.hid fin2
  clear h a fin fin2
  go_enter Try.func57, Try.ntmps57
  go_wp2
  go_end0
  refine ⟨rfl, ?_, HC.out⟩
  have hrow := St.toRow (by simpa only [List.append_assoc, List.cons_append, List.nil_append, List.append_nil, hd_append, lst_append, hd_nil, hd_cons, lst_nil, lst_cons, ptr_none, ptr_some] using HR.out) HA.out
  simpa only [List.append_assoc, List.cons_append, List.nil_append, List.append_nil, hd_append, lst_append, hd_nil, hd_cons, lst_nil, lst_cons, ptr_none, ptr_some] using hrow
theorem link_10 {W : World} {g : Nat} {mp : Option Nat} {n : Int} {m : Mem} {p0 q0 : Option Nat} {A : List Mem} {x : Mem} (h : St 95 54 W g mp n (A ++ [x]) m [] (hd [] none) (lst none (A ++ [x])) (hd ((A ++ [x]) ++ []) none) (lst none ((A ++ [x]) ++ [])) p0 q0) (a : Apt g (A ++ [x]) m []) :
    Calls Try.prog 57 #[.pointer (some ⟨g, 0, none⟩), .pointer (some ⟨m.b, 0, none⟩), ptr (hd [] none)] W (LinkPost 95 54 g mp n (A ++ [x]) m [] W) := by
  obtain ⟨x0, x1, x2, x3⟩ := read4 h.cell
  obtain ⟨y0, y1, y2, y3⟩ := read4 h.node
  have f0 := frz h.cell
  have f1 := frz h.node
  have n0 := a.g2
  have hx := h.sa.node (B := [])
  obtain ⟨u0, u1, u2, u3⟩ := read4 hx
  have f3 := frz hx
  have n3 := a.g1 x (by simp)
  have n4 := a.am x (by simp)
  clear hx
  have fin := (((St.next h a (hd [] none)).ahead a (lst none (A ++ [x]))).setL a (some m.b) (some m.b)).setA a (some m.b)
  have fin2 := chg1 (j := 3) (chg1 (j := 1) (chg1 (j := 2) (chg1 (j := 3) (Chg.refl (Wr g (A ++ [x]) m []) W) Wr.m (ptr (hd [] none))) Wr.m (ptr (lst none (A ++ [x])))) Wr.g (ptr (some m.b))) Wr.snoc (ptr (some m.b))
  simp only [List.append_assoc, List.cons_append, List.nil_append, List.append_nil, hd_append, lst_append, hd_nil, hd_cons, lst_nil, lst_cons, ptr_none, ptr_some] at *
  unfold LinkPost
  have HR := Lib.hid fin
  have HA := Lib.hid a
  have HC := Lib.hid fin2
  clear h a fin fin2
  go_enter Try.func57, Try.ntmps57
  go_wp2
  go_end0
  refine ⟨rfl, ?_, HC.out⟩
  have hrow := St.toRow (by simpa only [List.append_assoc, List.cons_append, List.nil_append, List.append_nil, hd_append, lst_append, hd_nil, hd_cons, lst_nil, lst_cons, ptr_none, ptr_some] using HR.out) HA.out
  simpa only [List.append_assoc, List.cons_append, List.nil_append, List.append_nil, hd_append, lst_append, hd_nil, hd_cons, lst_nil, lst_cons, ptr_none, ptr_some] using hrow
theorem link_11 {W : World} {g : Nat} {mp : Option Nat} {n : Int} {m : Mem} {p0 q0 : Option Nat} {A : List Mem} {x : Mem} {B : List Mem} {y : Mem} (h : St 95 54 W g mp n (A ++ [x]) m (y :: B) (hd (y :: B) none) (lst none (A ++ [x])) (hd ((A ++ [x]) ++ (y :: B)) none) (lst none ((A ++ [x]) ++ (y :: B))) p0 q0) (a : Apt g (A ++ [x]) m (y :: B)) :
    Calls Try.prog 57 #[.pointer (some ⟨g, 0, none⟩), .pointer (some ⟨m.b, 0, none⟩), ptr (hd (y :: B) none)] W (LinkPost 95 54 g mp n (A ++ [x]) m (y :: B) W) := by
  obtain ⟨x0, x1, x2, x3⟩ := read4 h.cell
  obtain ⟨y0, y1, y2, y3⟩ := read4 h.node
  have f0 := frz h.cell
  have f1 := frz h.node
  have n0 := a.g2
  obtain ⟨z0, z1, z2, z3⟩ := read4 h.sb.1
  have f2 := frz h.sb.1
  have n1 := a.g3 y (by simp)
  have n2 := a.bm y (by simp)
  have hx := h.sa.node (B := [])
  obtain ⟨u0, u1, u2, u3⟩ := read4 hx
  have f3 := frz hx
  have n3 := a.g1 x (by simp)
  have n4 := a.am x (by simp)
  clear hx
  have n5 := a.ab x (by simp) y (by simp)
  have fin := (((St.next h a (hd (y :: B) none)).ahead a (lst none (A ++ [x]))).setB a (some m.b)).setA a (some m.b)
  have fin2 := chg1 (j := 3) (chg1 (j := 2) (chg1 (j := 2) (chg1 (j := 3) (Chg.refl (Wr g (A ++ [x]) m (y :: B)) W) Wr.m (ptr (hd (y :: B) none))) Wr.m (ptr (lst none (A ++ [x])))) Wr.head (ptr (some m.b))) Wr.snoc (ptr (some m.b))
  simp only [List.append_assoc, List.cons_append, List.nil_append, List.append_nil, hd_append, lst_append, hd_nil, hd_cons, lst_nil, lst_cons, ptr_none, ptr_some] at *
  unfold LinkPost
  have HR := Lib.hid fin
  have HA := Lib.hid a
  have HC := Lib.hid fin2
  clear h a fin fin2
  go_enter Try.func57, Try.ntmps57
  go_wp2
  go_end0
  refine ⟨rfl, ?_, HC.out⟩
  have hrow := St.toRow (by simpa only [List.append_assoc, List.cons_append, List.nil_append, List.append_nil, hd_append, lst_append, hd_nil, hd_cons, lst_nil, lst_cons, ptr_none, ptr_some] using HR.out) HA.out
  simpa only [List.append_assoc, List.cons_append, List.nil_append, List.append_nil, hd_append, lst_append, hd_nil, hd_cons, lst_nil, lst_cons, ptr_none, ptr_some] using hrow
theorem link_any {W : World} {g : Nat} {mp : Option Nat} {n : Int} {m : Mem} {p0 q0 : Option Nat} {A B : List Mem} (h : Row 95 54 W g mp (A ++ B) n) (hm : Node 95 W m p0 q0) (a : Apt g A m B) :
    Calls Try.prog 57 #[.pointer (some ⟨g, 0, none⟩), .pointer (some ⟨m.b, 0, none⟩), ptr (hd B none)] W (LinkPost 95 54 g mp n A m B W) := by
  have st := St.ofRow2 h hm
  rcases split_snoc A with rfl | ⟨A', x, rfl⟩
  · cases B with
    | nil => exact link_00 st a
    | cons y B => exact link_01 st a
  · cases B with
    | nil => exact link_10 st a
    | cons y B => exact link_11 st a
theorem unlink_00 {W : World} {g : Nat} {mp : Option Nat} {n : Int} {m : Mem} (h : St 95 54 W g mp n [] m [] (some m.b) (some m.b) (hd ([] ++ m :: []) none) (lst none ([] ++ m :: [])) (lst none []) (hd [] none)) (a : Apt g [] m []) :
    Calls Try.prog 73 #[.pointer (some ⟨g, 0, none⟩), .pointer (some ⟨m.b, 0, none⟩)] W (UnlinkPost 95 54 g mp n [] m [] W) := by
  obtain ⟨x0, x1, x2, x3⟩ := read4 h.cell
  obtain ⟨y0, y1, y2, y3⟩ := read4 h.node
  have f0 := frz h.cell
  have f1 := frz h.node
  have n0 := a.g2
  have fin := ((h).setF a (hd [] none) (hd [] none)).setL a (lst none []) (lst none [])
  have fin2 := chg1 (j := 1) (chg1 (j := 0) (Chg.refl (Wr g [] m []) W) Wr.g (ptr (hd [] none))) Wr.g (ptr (lst none []))
  simp only [List.append_assoc, List.cons_append, List.nil_append, List.append_nil, hd_append, lst_append, hd_nil, hd_cons, lst_nil, lst_cons, ptr_none, ptr_some] at *
  unfold UnlinkPost
  have HR := Lib.hid fin
  have HA := Lib.hid a
  have HC := Lib.hid fin2
  clear h a fin fin2
  go_enter Try.func73, Try.ntmps73
  go_wp2
  go_end0
  refine ⟨rfl, ?_, ⟨_, _, HR.out.node⟩, HC.out⟩
  have hrow := St.toRow2 (by simpa only [List.append_assoc, List.cons_append, List.nil_append, List.append_nil, hd_append, lst_append, hd_nil, hd_cons, lst_nil, lst_cons, ptr_none, ptr_some] using HR.out) HA.out
  simpa only [List.append_assoc, List.cons_append, List.nil_append, List.append_nil, hd_append, lst_append, hd_nil, hd_cons, lst_nil, lst_cons, ptr_none, ptr_some] using hrow
theorem unlink_01 {W : World} {g : Nat} {mp : Option Nat} {n : Int} {m : Mem} {B : List Mem} {y : Mem} (h : St 95 54 W g mp n [] m (y :: B) (some m.b) (some m.b) (hd ([] ++ m :: (y :: B)) none) (lst none ([] ++ m :: (y :: B))) (lst none []) (hd (y :: B) none)) (a : Apt g [] m (y :: B)) :
    Calls Try.prog 73 #[.pointer (some ⟨g, 0, none⟩), .pointer (some ⟨m.b, 0, none⟩)] W (UnlinkPost 95 54 g mp n [] m (y :: B) W) := by
  obtain ⟨x0, x1, x2, x3⟩ := read4 h.cell
  obtain ⟨y0, y1, y2, y3⟩ := read4 h.node
  have f0 := frz h.cell
  have f1 := frz h.node
  have n0 := a.g2
  obtain ⟨z0, z1, z2, z3⟩ := read4 h.sb.1
  have f2 := frz h.sb.1
  have n1 := a.g3 y (by simp)
  have n2 := a.bm y (by simp)
  have fin := (((h).setF a (hd (y :: B) none) (hd (y :: B) none)).setB a (lst none [])).drew
  have fin2 := Chg.drew (chg1 (j := 2) (chg1 (j := 0) (Chg.refl (Wr g [] m (y :: B)) W) Wr.g (ptr (hd (y :: B) none))) Wr.head (ptr (lst none [])))
  simp only [List.append_assoc, List.cons_append, List.nil_append, List.append_nil, hd_append, lst_append, hd_nil, hd_cons, lst_nil, lst_cons, ptr_none, ptr_some] at *
  unfold UnlinkPost
  have HR := Lib.hid fin
  have HA := Lib.hid a
  have HC := Lib.hid fin2
  clear h a fin fin2
  go_enter Try.func73, Try.ntmps73
  go_wp2
  go_region
  go_wp2
  go_end0
  refine ⟨rfl, ?_, ⟨_, _, HR.out.node⟩, HC.out⟩
  have hrow := St.toRow2 (by simpa only [List.append_assoc, List.cons_append, List.nil_append, List.append_nil, hd_append, lst_append, hd_nil, hd_cons, lst_nil, lst_cons, ptr_none, ptr_some] using HR.out) HA.out
  simpa only [List.append_assoc, List.cons_append, List.nil_append, List.append_nil, hd_append, lst_append, hd_nil, hd_cons, lst_nil, lst_cons, ptr_none, ptr_some] using hrow
theorem unlink_10 {W : World} {g : Nat} {mp : Option Nat} {n : Int} {m : Mem} {A : List Mem} {x : Mem} (h : St 95 54 W g mp n (A ++ [x]) m [] (some m.b) (some m.b) (hd ((A ++ [x]) ++ m :: []) none) (lst none ((A ++ [x]) ++ m :: [])) (lst none (A ++ [x])) (hd [] none)) (a : Apt g (A ++ [x]) m []) :
    Calls Try.prog 73 #[.pointer (some ⟨g, 0, none⟩), .pointer (some ⟨m.b, 0, none⟩)] W (UnlinkPost 95 54 g mp n (A ++ [x]) m [] W) := by
  obtain ⟨x0, x1, x2, x3⟩ := read4 h.cell
  obtain ⟨y0, y1, y2, y3⟩ := read4 h.node
  have f0 := frz h.cell
  have f1 := frz h.node
  have n0 := a.g2
  have hx := h.sa.node (B := [])
  obtain ⟨u0, u1, u2, u3⟩ := read4 hx
  have f3 := frz hx
  have n3 := a.g1 x (by simp)
  have n4 := a.am x (by simp)
  clear hx
  have fin := (((h).setA a (hd [] none)).setL a (lst none (A ++ [x])) (lst none (A ++ [x]))).drew
  have fin2 := Chg.drew (chg1 (j := 1) (chg1 (j := 3) (Chg.refl (Wr g (A ++ [x]) m []) W) Wr.snoc (ptr (hd [] none))) Wr.g (ptr (lst none (A ++ [x]))))
  simp only [List.append_assoc, List.cons_append, List.nil_append, List.append_nil, hd_append, lst_append, hd_nil, hd_cons, lst_nil, lst_cons, ptr_none, ptr_some] at *
  unfold UnlinkPost
  have HR := Lib.hid fin
  have HA := Lib.hid a
  have HC := Lib.hid fin2
  clear h a fin fin2
  go_enter Try.func73, Try.ntmps73
  go_wp2
  go_region
  go_wp2
  go_end0
  refine ⟨rfl, ?_, ⟨_, _, HR.out.node⟩, HC.out⟩
  have hrow := St.toRow2 (by simpa only [List.append_assoc, List.cons_append, List.nil_append, List.append_nil, hd_append, lst_append, hd_nil, hd_cons, lst_nil, lst_cons, ptr_none, ptr_some] using HR.out) HA.out
  simpa only [List.append_assoc, List.cons_append, List.nil_append, List.append_nil, hd_append, lst_append, hd_nil, hd_cons, lst_nil, lst_cons, ptr_none, ptr_some] using hrow
theorem unlink_11 {W : World} {g : Nat} {mp : Option Nat} {n : Int} {m : Mem} {A : List Mem} {x : Mem} {B : List Mem} {y : Mem} (h : St 95 54 W g mp n (A ++ [x]) m (y :: B) (some m.b) (some m.b) (hd ((A ++ [x]) ++ m :: (y :: B)) none) (lst none ((A ++ [x]) ++ m :: (y :: B))) (lst none (A ++ [x])) (hd (y :: B) none)) (a : Apt g (A ++ [x]) m (y :: B)) :
    Calls Try.prog 73 #[.pointer (some ⟨g, 0, none⟩), .pointer (some ⟨m.b, 0, none⟩)] W (UnlinkPost 95 54 g mp n (A ++ [x]) m (y :: B) W) := by
  obtain ⟨x0, x1, x2, x3⟩ := read4 h.cell
  obtain ⟨y0, y1, y2, y3⟩ := read4 h.node
  have f0 := frz h.cell
  have f1 := frz h.node
  have n0 := a.g2
  obtain ⟨z0, z1, z2, z3⟩ := read4 h.sb.1
  have f2 := frz h.sb.1
  have n1 := a.g3 y (by simp)
  have n2 := a.bm y (by simp)
  have hx := h.sa.node (B := [])
  obtain ⟨u0, u1, u2, u3⟩ := read4 hx
  have f3 := frz hx
  have n3 := a.g1 x (by simp)
  have n4 := a.am x (by simp)
  clear hx
  have n5 := a.ab x (by simp) y (by simp)
  have fin := ((((h).setA a (hd (y :: B) none)).setB a (lst none (A ++ [x]))).drew).drew
  have fin2 := Chg.drew (Chg.drew (chg1 (j := 2) (chg1 (j := 3) (Chg.refl (Wr g (A ++ [x]) m (y :: B)) W) Wr.snoc (ptr (hd (y :: B) none))) Wr.head (ptr (lst none (A ++ [x])))))
  simp only [List.append_assoc, List.cons_append, List.nil_append, List.append_nil, hd_append, lst_append, hd_nil, hd_cons, lst_nil, lst_cons, ptr_none, ptr_some] at *
  unfold UnlinkPost
  have HR := Lib.hid fin
  have HA := Lib.hid a
  have HC := Lib.hid fin2
  clear h a fin fin2
  go_enter Try.func73, Try.ntmps73
  go_wp2
  go_region
  go_wp2
  go_region
  go_wp2
  go_end0
  refine ⟨rfl, ?_, ⟨_, _, HR.out.node⟩, HC.out⟩
  have hrow := St.toRow2 (by simpa only [List.append_assoc, List.cons_append, List.nil_append, List.append_nil, hd_append, lst_append, hd_nil, hd_cons, lst_nil, lst_cons, ptr_none, ptr_some] using HR.out) HA.out
  simpa only [List.append_assoc, List.cons_append, List.nil_append, List.append_nil, hd_append, lst_append, hd_nil, hd_cons, lst_nil, lst_cons, ptr_none, ptr_some] using hrow
theorem unlink_any {W : World} {g : Nat} {mp : Option Nat} {n : Int} {m : Mem} {A B : List Mem} (h : Row 95 54 W g mp (A ++ m :: B) n) (a : Apt g A m B) :
    Calls Try.prog 73 #[.pointer (some ⟨g, 0, none⟩), .pointer (some ⟨m.b, 0, none⟩)] W (UnlinkPost 95 54 g mp n A m B W) := by
  have st := St.ofRow h
  rcases split_snoc A with rfl | ⟨A', x, rfl⟩
  · cases B with
    | nil => exact unlink_00 st a
    | cons y B => exact unlink_01 st a
  · cases B with
    | nil => exact unlink_10 st a
    | cons y B => exact unlink_11 st a
end Go.Proofs.Ythoagpagnldmeaa
