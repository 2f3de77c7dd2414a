/- A chain of texts: its methods, as those of numbers. -/
import Derived.Test.YthoagpagnldmeaaCi
import Derived.LaidEqlPtr
import Derived.RegionTactic
import Derived.ChangeAlike
import Derived.Test.YthoagpagnldmeaaK3
import Derived.RangeFuncNested
import Derived.RangeFuncBound
import Derived.RangeFuncCalls
import Derived.RangeFuncLeaves
import Derived.Shelf.Abstract
import Derived.Shelf.RegionOpen
import Derived.WalkKit
import Derived.OwnWalkIn
import Derived.TacticsInMore
import Derived.LoopNIn
import Derived.LoopIn
set_option linter.unusedVariables false
set_option linter.unusedSimpArgs false
namespace Go.Proofs.Ythoagpagnldmeaa.S
open Go.RowKit Go.Ps
attribute [local go_sem] Oper.semAt_some
theorem zero99 (w : World) : (zeroValue 99).run Try.prog w = .ok (.pointer none) w := by kernel_rfl
theorem find_any {w : World} {g : Nat} {mp : Option Nat} {X : List Mem} {n : Int} (h : ChW 106 102 w g mp X n) (k : Int) :
    Calls Try.prog 63 #[.pointer (some ⟨g, 0, none⟩), .int .i64 k] w fun e w' => e = .returned (ptrM (findH X k)) ∧ w' = w := by
  obtain ⟨x0, x1, x2, x3⟩ := read4 h.row.cell
  cases mp with
  | none =>
    have hX : X = [] := h.map
    subst hX
    have hr := look_nil0 Try.underlying100 Try.underlying3 (zero99 w) k false
    simp only [Bool.false_eq_true, if_false] at hr
    clear h
    go_enter Try.func63, Try.ntmps63
    go_wp2
    go_ret
    exact ⟨rfl, rfl⟩
  | some bm =>
    obtain ⟨ps, hm, hl, hg⟩ := h.map.get
    have hr := hm.look Try.underlying100 Try.underlying3 (zero99 w) k false
    simp only [Bool.false_eq_true, if_false, hg] at hr
    clear h
    go_enter Try.func63, Try.ntmps63
    go_wp2
    go_ret
    exact ⟨rfl, rfl⟩
theorem link_00 {W : World} {g : Nat} {mp : Option Nat} {n : Int} {m : Mem} {p0 q0 : Option Nat} (h : St 106 102 W g mp n [] m [] (hd [] none) (lst none []) (hd ([] ++ []) none) (lst none ([] ++ [])) p0 q0) (a : Apt g [] m []) :
    Calls Try.prog 60 #[.pointer (some ⟨g, 0, none⟩), .pointer (some ⟨m.b, 0, none⟩), ptr (hd [] none)] W (LinkPost 106 102 g mp n [] m [] W) := by
  obtain ⟨x0, x1, x2, x3⟩ := read4 h.cell
  obtain ⟨y0, y1, y2, y3⟩ := read4 h.node
  have f0 := frz h.cell
  have f1 := frz h.node
  have n0 := a.g2
  have fin := (((St.next h a (hd [] none)).ahead a (lst none [])).setL a (some m.b) (some m.b)).setF a (some m.b) (some m.b)
  have fin2 := chg1 (j := 0) (chg1 (j := 1) (chg1 (j := 2) (chg1 (j := 3) (Chg.refl (Wr g [] m []) W) Wr.m (ptr (hd [] none))) Wr.m (ptr (lst none []))) Wr.g (ptr (some m.b))) Wr.g (ptr (some m.b))
  simp only [List.append_assoc, List.cons_append, List.nil_append, List.append_nil, hd_append, lst_append, hd_nil, hd_cons, lst_nil, lst_cons, ptr_none, ptr_some] at *
  unfold LinkPost
  have HR := Lib.hid fin
  have HA := Lib.hid a
  have HC := Lib.hid fin2
  clear h a fin fin2
  go_enter Try.func60, Try.ntmps60
  go_wp2
  go_end0
  refine ⟨rfl, ?_, HC.out⟩
  have hrow := St.toRow (by simpa only [List.append_assoc, List.cons_append, List.nil_append, List.append_nil, hd_append, lst_append, hd_nil, hd_cons, lst_nil, lst_cons, ptr_none, ptr_some] using HR.out) HA.out
  simpa only [List.append_assoc, List.cons_append, List.nil_append, List.append_nil, hd_append, lst_append, hd_nil, hd_cons, lst_nil, lst_cons, ptr_none, ptr_some] using hrow
theorem link_01 {W : World} {g : Nat} {mp : Option Nat} {n : Int} {m : Mem} {p0 q0 : Option Nat} {B : List Mem} {y : Mem} (h : St 106 102 W g mp n [] m (y :: B) (hd (y :: B) none) (lst none []) (hd ([] ++ (y :: B)) none) (lst none ([] ++ (y :: B))) p0 q0) (a : Apt g [] m (y :: B)) :
    Calls Try.prog 60 #[.pointer (some ⟨g, 0, none⟩), .pointer (some ⟨m.b, 0, none⟩), ptr (hd (y :: B) none)] W (LinkPost 106 102 g mp n [] m (y :: B) W) := by
  obtain ⟨x0, x1, x2, x3⟩ := read4 h.cell
  obtain ⟨y0, y1, y2, y3⟩ := read4 h.node
  have f0 := frz h.cell
  have f1 := frz h.node
  have n0 := a.g2
  obtain ⟨z0, z1, z2, z3⟩ := read4 h.sb.1
  have f2 := frz h.sb.1
  have n1 := a.g3 y (by simp)
  have n2 := a.bm y (by simp)
  have fin := (((St.next h a (hd (y :: B) none)).ahead a (lst none [])).setB a (some m.b)).setF a (some m.b) (some m.b)
  have fin2 := chg1 (j := 0) (chg1 (j := 2) (chg1 (j := 2) (chg1 (j := 3) (Chg.refl (Wr g [] m (y :: B)) W) Wr.m (ptr (hd (y :: B) none))) Wr.m (ptr (lst none []))) Wr.head (ptr (some m.b))) Wr.g (ptr (some m.b))
  simp only [List.append_assoc, List.cons_append, List.nil_append, List.append_nil, hd_append, lst_append, hd_nil, hd_cons, lst_nil, lst_cons, ptr_none, ptr_some] at *
  unfold LinkPost
  have HR := Lib.hid fin
  have HA := Lib.hid a
  have HC := Lib.hid fin2
  clear h a fin fin2
  go_enter Try.func60, Try.ntmps60
  go_wp2
  go_end0
  refine ⟨rfl, ?_, HC.out⟩
  have hrow := St.toRow (by simpa only [List.append_assoc, List.cons_append, List.nil_append, List.append_nil, hd_append, lst_append, hd_nil, hd_cons, lst_nil, lst_cons, ptr_none, ptr_some] using HR.out) HA.out
  simpa only [List.append_assoc, List.cons_append, List.nil_append, List.append_nil, hd_append, lst_append, hd_nil, hd_cons, lst_nil, lst_cons, ptr_none, ptr_some] using hrow
theorem link_10 {W : World} {g : Nat} {mp : Option Nat} {n : Int} {m : Mem} {p0 q0 : Option Nat} {A : List Mem} {x : Mem} (h : St 106 102 W g mp n (A ++ [x]) m [] (hd [] none) (lst none (A ++ [x])) (hd ((A ++ [x]) ++ []) none) (lst none ((A ++ [x]) ++ [])) p0 q0) (a : Apt g (A ++ [x]) m []) :
    Calls Try.prog 60 #[.pointer (some ⟨g, 0, none⟩), .pointer (some ⟨m.b, 0, none⟩), ptr (hd [] none)] W (LinkPost 106 102 g mp n (A ++ [x]) m [] W) := by
  obtain ⟨x0, x1, x2, x3⟩ := read4 h.cell
  obtain ⟨y0, y1, y2, y3⟩ := read4 h.node
  have f0 := frz h.cell
  have f1 := frz h.node
  have n0 := a.g2
  have hx := h.sa.node (B := [])
  obtain ⟨u0, u1, u2, u3⟩ := read4 hx
  have f3 := frz hx
  have n3 := a.g1 x (by simp)
  have n4 := a.am x (by simp)
  clear hx
  have fin := (((St.next h a (hd [] none)).ahead a (lst none (A ++ [x]))).setL a (some m.b) (some m.b)).setA a (some m.b)
  have fin2 := chg1 (j := 3) (chg1 (j := 1) (chg1 (j := 2) (chg1 (j := 3) (Chg.refl (Wr g (A ++ [x]) m []) W) Wr.m (ptr (hd [] none))) Wr.m (ptr (lst none (A ++ [x])))) Wr.g (ptr (some m.b))) Wr.snoc (ptr (some m.b))
  simp only [List.append_assoc, List.cons_append, List.nil_append, List.append_nil, hd_append, lst_append, hd_nil, hd_cons, lst_nil, lst_cons, ptr_none, ptr_some] at *
  unfold LinkPost
  have HR := Lib.hid fin
  have HA := Lib.hid a
  have HC := Lib.hid fin2
  clear h a fin fin2
  go_enter Try.func60, Try.ntmps60
  go_wp2
  go_end0
  refine ⟨rfl, ?_, HC.out⟩
  have hrow := St.toRow (by simpa only [List.append_assoc, List.cons_append, List.nil_append, List.append_nil, hd_append, lst_append, hd_nil, hd_cons, lst_nil, lst_cons, ptr_none, ptr_some] using HR.out) HA.out
  simpa only [List.append_assoc, List.cons_append, List.nil_append, List.append_nil, hd_append, lst_append, hd_nil, hd_cons, lst_nil, lst_cons, ptr_none, ptr_some] using hrow
theorem link_11 {W : World} {g : Nat} {mp : Option Nat} {n : Int} {m : Mem} {p0 q0 : Option Nat} {A : List Mem} {x : Mem} {B : List Mem} {y : Mem} (h : St 106 102 W g mp n (A ++ [x]) m (y :: B) (hd (y :: B) none) (lst none (A ++ [x])) (hd ((A ++ [x]) ++ (y :: B)) none) (lst none ((A ++ [x]) ++ (y :: B))) p0 q0) (a : Apt g (A ++ [x]) m (y :: B)) :
    Calls Try.prog 60 #[.pointer (some ⟨g, 0, none⟩), .pointer (some ⟨m.b, 0, none⟩), ptr (hd (y :: B) none)] W (LinkPost 106 102 g mp n (A ++ [x]) m (y :: B) W) := by
  obtain ⟨x0, x1, x2, x3⟩ := read4 h.cell
  obtain ⟨y0, y1, y2, y3⟩ := read4 h.node
  have f0 := frz h.cell
  have f1 := frz h.node
  have n0 := a.g2
  obtain ⟨z0, z1, z2, z3⟩ := read4 h.sb.1
  have f2 := frz h.sb.1
  have n1 := a.g3 y (by simp)
  have n2 := a.bm y (by simp)
  have hx := h.sa.node (B := [])
  obtain ⟨u0, u1, u2, u3⟩ := read4 hx
  have f3 := frz hx
  have n3 := a.g1 x (by simp)
  have n4 := a.am x (by simp)
  clear hx
  have n5 := a.ab x (by simp) y (by simp)
  have fin := (((St.next h a (hd (y :: B) none)).ahead a (lst none (A ++ [x]))).setB a (some m.b)).setA a (some m.b)
  have fin2 := chg1 (j := 3) (chg1 (j := 2) (chg1 (j := 2) (chg1 (j := 3) (Chg.refl (Wr g (A ++ [x]) m (y :: B)) W) Wr.m (ptr (hd (y :: B) none))) Wr.m (ptr (lst none (A ++ [x])))) Wr.head (ptr (some m.b))) Wr.snoc (ptr (some m.b))
  simp only [List.append_assoc, List.cons_append, List.nil_append, List.append_nil, hd_append, lst_append, hd_nil, hd_cons, lst_nil, lst_cons, ptr_none, ptr_some] at *
  unfold LinkPost
  have HR := Lib.hid fin
  have HA := Lib.hid a
  have HC := Lib.hid fin2
  clear h a fin fin2
  go_enter Try.func60, Try.ntmps60
  go_wp2
  go_end0
  refine ⟨rfl, ?_, HC.out⟩
  have hrow := St.toRow (by simpa only [List.append_assoc, List.cons_append, List.nil_append, List.append_nil, hd_append, lst_append, hd_nil, hd_cons, lst_nil, lst_cons, ptr_none, ptr_some] using HR.out) HA.out
  simpa only [List.append_assoc, List.cons_append, List.nil_append, List.append_nil, hd_append, lst_append, hd_nil, hd_cons, lst_nil, lst_cons, ptr_none, ptr_some] using hrow
theorem link_any {W : World} {g : Nat} {mp : Option Nat} {n : Int} {m : Mem} {p0 q0 : Option Nat} {A B : List Mem} (h : Row 106 102 W g mp (A ++ B) n) (hm : Node 106 W m p0 q0) (a : Apt g A m B) :
    Calls Try.prog 60 #[.pointer (some ⟨g, 0, none⟩), .pointer (some ⟨m.b, 0, none⟩), ptr (hd B none)] W (LinkPost 106 102 g mp n A m B W) := by
  have st := St.ofRow2 h hm
  rcases split_snoc A with rfl | ⟨A', x, rfl⟩
  · cases B with
    | nil => exact link_00 st a
    | cons y B => exact link_01 st a
  · cases B with
    | nil => exact link_10 st a
    | cons y B => exact link_11 st a
theorem unlink_00 {W : World} {g : Nat} {mp : Option Nat} {n : Int} {m : Mem} (h : St 106 102 W g mp n [] m [] (some m.b) (some m.b) (hd ([] ++ m :: []) none) (lst none ([] ++ m :: [])) (lst none []) (hd [] none)) (a : Apt g [] m []) :
    Calls Try.prog 64 #[.pointer (some ⟨g, 0, none⟩), .pointer (some ⟨m.b, 0, none⟩)] W (UnlinkPost 106 102 g mp n [] m [] W) := by
  obtain ⟨x0, x1, x2, x3⟩ := read4 h.cell
  obtain ⟨y0, y1, y2, y3⟩ := read4 h.node
  have f0 := frz h.cell
  have f1 := frz h.node
  have n0 := a.g2
  have fin := ((h).setF a (hd [] none) (hd [] none)).setL a (lst none []) (lst none [])
  have fin2 := chg1 (j := 1) (chg1 (j := 0) (Chg.refl (Wr g [] m []) W) Wr.g (ptr (hd [] none))) Wr.g (ptr (lst none []))
  simp only [List.append_assoc, List.cons_append, List.nil_append, List.append_nil, hd_append, lst_append, hd_nil, hd_cons, lst_nil, lst_cons, ptr_none, ptr_some] at *
  unfold UnlinkPost
  have HR := Lib.hid fin
  have HA := Lib.hid a
  have HC := Lib.hid fin2
  clear h a fin fin2
  go_enter Try.func64, Try.ntmps64
  go_wp2
  go_end0
  refine ⟨rfl, ?_, ⟨_, _, HR.out.node⟩, HC.out⟩
  have hrow := St.toRow2 (by simpa only [List.append_assoc, List.cons_append, List.nil_append, List.append_nil, hd_append, lst_append, hd_nil, hd_cons, lst_nil, lst_cons, ptr_none, ptr_some] using HR.out) HA.out
  simpa only [List.append_assoc, List.cons_append, List.nil_append, List.append_nil, hd_append, lst_append, hd_nil, hd_cons, lst_nil, lst_cons, ptr_none, ptr_some] using hrow
theorem unlink_01 {W : World} {g : Nat} {mp : Option Nat} {n : Int} {m : Mem} {B : List Mem} {y : Mem} (h : St 106 102 W g mp n [] m (y :: B) (some m.b) (some m.b) (hd ([] ++ m :: (y :: B)) none) (lst none ([] ++ m :: (y :: B))) (lst none []) (hd (y :: B) none)) (a : Apt g [] m (y :: B)) :
    Calls Try.prog 64 #[.pointer (some ⟨g, 0, none⟩), .pointer (some ⟨m.b, 0, none⟩)] W (UnlinkPost 106 102 g mp n [] m (y :: B) W) := by
  obtain ⟨x0, x1, x2, x3⟩ := read4 h.cell
  obtain ⟨y0, y1, y2, y3⟩ := read4 h.node
  have f0 := frz h.cell
  have f1 := frz h.node
  have n0 := a.g2
  obtain ⟨z0, z1, z2, z3⟩ := read4 h.sb.1
  have f2 := frz h.sb.1
  have n1 := a.g3 y (by simp)
  have n2 := a.bm y (by simp)
  have fin := (((h).setF a (hd (y :: B) none) (hd (y :: B) none)).setB a (lst none [])).drew
  have fin2 := Chg.drew (chg1 (j := 2) (chg1 (j := 0) (Chg.refl (Wr g [] m (y :: B)) W) Wr.g (ptr (hd (y :: B) none))) Wr.head (ptr (lst none [])))
  simp only [List.append_assoc, List.cons_append, List.nil_append, List.append_nil, hd_append, lst_append, hd_nil, hd_cons, lst_nil, lst_cons, ptr_none, ptr_some] at *
  unfold UnlinkPost
  have HR := Lib.hid fin
  have HA := Lib.hid a
  have HC := Lib.hid fin2
  clear h a fin fin2
  go_enter Try.func64, Try.ntmps64
  go_wp2
  go_region
  go_wp2
  go_end0
  refine ⟨rfl, ?_, ⟨_, _, HR.out.node⟩, HC.out⟩
  have hrow := St.toRow2 (by simpa only [List.append_assoc, List.cons_append, List.nil_append, List.append_nil, hd_append, lst_append, hd_nil, hd_cons, lst_nil, lst_cons, ptr_none, ptr_some] using HR.out) HA.out
  simpa only [List.append_assoc, List.cons_append, List.nil_append, List.append_nil, hd_append, lst_append, hd_nil, hd_cons, lst_nil, lst_cons, ptr_none, ptr_some] using hrow
theorem unlink_10 {W : World} {g : Nat} {mp : Option Nat} {n : Int} {m : Mem} {A : List Mem} {x : Mem} (h : St 106 102 W g mp n (A ++ [x]) m [] (some m.b) (some m.b) (hd ((A ++ [x]) ++ m :: []) none) (lst none ((A ++ [x]) ++ m :: [])) (lst none (A ++ [x])) (hd [] none)) (a : Apt g (A ++ [x]) m []) :
    Calls Try.prog 64 #[.pointer (some ⟨g, 0, none⟩), .pointer (some ⟨m.b, 0, none⟩)] W (UnlinkPost 106 102 g mp n (A ++ [x]) m [] W) := by
  obtain ⟨x0, x1, x2, x3⟩ := read4 h.cell
  obtain ⟨y0, y1, y2, y3⟩ := read4 h.node
  have f0 := frz h.cell
  have f1 := frz h.node
  have n0 := a.g2
  have hx := h.sa.node (B := [])
  obtain ⟨u0, u1, u2, u3⟩ := read4 hx
  have f3 := frz hx
  have n3 := a.g1 x (by simp)
  have n4 := a.am x (by simp)
  clear hx
  have fin := (((h).setA a (hd [] none)).setL a (lst none (A ++ [x])) (lst none (A ++ [x]))).drew
  have fin2 := Chg.drew (chg1 (j := 1) (chg1 (j := 3) (Chg.refl (Wr g (A ++ [x]) m []) W) Wr.snoc (ptr (hd [] none))) Wr.g (ptr (lst none (A ++ [x]))))
  simp only [List.append_assoc, List.cons_append, List.nil_append, List.append_nil, hd_append, lst_append, hd_nil, hd_cons, lst_nil, lst_cons, ptr_none, ptr_some] at *
  unfold UnlinkPost
  have HR := Lib.hid fin
  have HA := Lib.hid a
  have HC := Lib.hid fin2
  clear h a fin fin2
  go_enter Try.func64, Try.ntmps64
  go_wp2
  go_region
  go_wp2
  go_end0
  refine ⟨rfl, ?_, ⟨_, _, HR.out.node⟩, HC.out⟩
  have hrow := St.toRow2 (by simpa only [List.append_assoc, List.cons_append, List.nil_append, List.append_nil, hd_append, lst_append, hd_nil, hd_cons, lst_nil, lst_cons, ptr_none, ptr_some] using HR.out) HA.out
  simpa only [List.append_assoc, List.cons_append, List.nil_append, List.append_nil, hd_append, lst_append, hd_nil, hd_cons, lst_nil, lst_cons, ptr_none, ptr_some] using hrow
theorem unlink_11 {W : World} {g : Nat} {mp : Option Nat} {n : Int} {m : Mem} {A : List Mem} {x : Mem} {B : List Mem} {y : Mem} (h : St 106 102 W g mp n (A ++ [x]) m (y :: B) (some m.b) (some m.b) (hd ((A ++ [x]) ++ m :: (y :: B)) none) (lst none ((A ++ [x]) ++ m :: (y :: B))) (lst none (A ++ [x])) (hd (y :: B) none)) (a : Apt g (A ++ [x]) m (y :: B)) :
    Calls Try.prog 64 #[.pointer (some ⟨g, 0, none⟩), .pointer (some ⟨m.b, 0, none⟩)] W (UnlinkPost 106 102 g mp n (A ++ [x]) m (y :: B) W) := by
  obtain ⟨x0, x1, x2, x3⟩ := read4 h.cell
  obtain ⟨y0, y1, y2, y3⟩ := read4 h.node
  have f0 := frz h.cell
  have f1 := frz h.node
  have n0 := a.g2
  obtain ⟨z0, z1, z2, z3⟩ := read4 h.sb.1
  have f2 := frz h.sb.1
  have n1 := a.g3 y (by simp)
  have n2 := a.bm y (by simp)
  have hx := h.sa.node (B := [])
  obtain ⟨u0, u1, u2, u3⟩ := read4 hx
  have f3 := frz hx
  have n3 := a.g1 x (by simp)
  have n4 := a.am x (by simp)
  clear hx
  have n5 := a.ab x (by simp) y (by simp)
  have fin := ((((h).setA a (hd (y :: B) none)).setB a (lst none (A ++ [x]))).drew).drew
  have fin2 := Chg.drew (Chg.drew (chg1 (j := 2) (chg1 (j := 3) (Chg.refl (Wr g (A ++ [x]) m (y :: B)) W) Wr.snoc (ptr (hd (y :: B) none))) Wr.head (ptr (lst none (A ++ [x])))))
  simp only [List.append_assoc, List.cons_append, List.nil_append, List.append_nil, hd_append, lst_append, hd_nil, hd_cons, lst_nil, lst_cons, ptr_none, ptr_some] at *
  unfold UnlinkPost
  have HR := Lib.hid fin
  have HA := Lib.hid a
  have HC := Lib.hid fin2
  clear h a fin fin2
  go_enter Try.func64, Try.ntmps64
  go_wp2
  go_region
  go_wp2
  go_region
  go_wp2
  go_end0
  refine ⟨rfl, ?_, ⟨_, _, HR.out.node⟩, HC.out⟩
  have hrow := St.toRow2 (by simpa only [List.append_assoc, List.cons_append, List.nil_append, List.append_nil, hd_append, lst_append, hd_nil, hd_cons, lst_nil, lst_cons, ptr_none, ptr_some] using HR.out) HA.out
  simpa only [List.append_assoc, List.cons_append, List.nil_append, List.append_nil, hd_append, lst_append, hd_nil, hd_cons, lst_nil, lst_cons, ptr_none, ptr_some] using hrow
theorem unlink_any {W : World} {g : Nat} {mp : Option Nat} {n : Int} {m : Mem} {A B : List Mem} (h : Row 106 102 W g mp (A ++ m :: B) n) (a : Apt g A m B) :
    Calls Try.prog 64 #[.pointer (some ⟨g, 0, none⟩), .pointer (some ⟨m.b, 0, none⟩)] W (UnlinkPost 106 102 g mp n A m B W) := by
  have st := St.ofRow h
  rcases split_snoc A with rfl | ⟨A', x, rfl⟩
  · cases B with
    | nil => exact unlink_00 st a
    | cons y B => exact unlink_01 st a
  · cases B with
    | nil => exact unlink_10 st a
    | cons y B => exact unlink_11 st a
set_option maxRecDepth 20000 in
theorem fresh_some {w : World} {g bm : Nat} {X : List Mem} {n : Int} (z : ByteArray) (h : ChW 106 102 w g (some bm) X n) (hn0 : 0 ≤ n) (hn : n < 1000000) :
    Calls Try.prog 59 #[.pointer (some ⟨g, 0, none⟩), .string z] w (FreshPost 106 102 g (some bm) X n (.string z) w) := by
  obtain ⟨ps, hm, h1, h2, h3, h4⟩ := h.map
  have hgm : bm ≠ g := fun e => h.gm (by rw [e])
  have hw := wrap_i (n := n + 1) (by omega) (by omega)
  obtain ⟨x0, x1, x2, x3⟩ := read4 h.row.cell
  have f0 := frz h.row.cell
  have hlt : bm < w.heap.size := hm.lt
  have hC5 : Chg (fun k => k = g) w ((w.setCell ⟨g, 3, none⟩ (.int .i64 (n + 1))).alloc (.cells #[.int .i64 (n + 1), .string z, .pointer none, .pointer none] 106)) := (chg1 (F := fun k => k = g) (Chg.refl _ w) rfl _).alloc _
  have hm3 := hm.chg hC5 hgm
  obtain ⟨w4, hrun, hm4, hg4⟩ := (IMap_drew hm3).store Try.underlying100 Try.underlying3 (n + 1) (.pointer (some ⟨w.heap.size, 0, none⟩))
  have hc : (w.setCell ⟨g, 3, none⟩ (.int .i64 (n + 1))).heap[g]? = some (.cells #[ptr (hd X none), ptr (lst none X), .map (some bm), .int .i64 (n + 1)] 102 (0, 0)) := by rw [heap_setCell h.row.cell]; rfl
  have hs : (w.setCell ⟨g, 3, none⟩ (.int .i64 (n + 1))).heap.size = w.heap.size := by simp [World.setCell]
  have hb := heap_alloc_at (w.setCell ⟨g, 3, none⟩ (.int .i64 (n + 1))) (.cells #[.int .i64 (n + 1), .string z, .pointer none, .pointer none] 106)
  rw [hs] at hb
  have fin : FreshPost 106 102 g (some bm) X n (.string z) w (.returned (.pointer (some ⟨w.heap.size, 0, none⟩))) w4 := by
    have hR5 : Row 106 102 ((w.setCell ⟨g, 3, none⟩ (.int .i64 (n + 1))).alloc (.cells #[.int .i64 (n + 1), .string z, .pointer none, .pointer none] 106)) g (some bm) X (n + 1) :=
      ⟨heap_alloc_ne hc, h.row.seg.same (fun x hx => hC5.block _ (h.row.lt (.inr ⟨x, hx, rfl⟩)) (h.row.ng x hx)), h.row.nd, h.row.ng⟩
    obtain ⟨r1, r2⟩ := fresh_fin (m := ⟨w.heap.size, n + 1, .string z⟩) hR5 hb hgm (by simp; omega) (fun x hx e => h.xm x hx (by rw [e])) hg4
    refine ⟨bm, w.heap.size, rfl, Nat.le_refl _, .inl rfl, by omega, hgm, r1, r2, ?_, ?_⟩
    · exact MapIs.put (m := ⟨w.heap.size, n + 1, .string z⟩) h1 h2 h3 h4 (fun x hx e => by have := (h.hb x hx).2; simp at e; omega) hm4
    · exact ((hC5.mono (G := Mine g (some bm) X) (fun k _ hk => .inl hk)).drew).grown hg4 (fun k hk _ => .inr (.inl hk))
  have FIN := Lib.hid fin
  have HB := Lib.hid hb
  have HC := Lib.hid hc
  have HRUN := Lib.hid hrun
  clear h hn0 hn h1 h2 h3 h4 hm hm3 hrun hb hc hs fin hlt hC5 hm4 hg4
  have qT : ∀ (w : World) (r : Option Nat), (binOp .eql 100 (.map r) (.map none)).run Try.prog w = .ok (.bool r.isNone) w := fun w r => run_eql_map_nil w _ _ _ r Try.underlying100
  go_enter Try.func59, Try.ntmps59
  go_wp2_with fail
  obtain ⟨y0, y1, y2, y3⟩ := read4 (heap_alloc_ne (o := .cells #[.int .i64 (n + 1), .string z, .pointer none, .pointer none] 106) HC.out)
  obtain ⟨z0, z1, z2, z3⟩ := read4 HB.out
  have hrun := HRUN.out
  go_region
  go_wp2
  go_ret
  exact FIN.out
set_option maxRecDepth 20000 in
theorem fresh_none {w : World} {g : Nat} {X : List Mem} {n : Int} (z : ByteArray) (h : ChW 106 102 w g none X n) (hn0 : 0 ≤ n) (hn : n < 1000000) :
    Calls Try.prog 59 #[.pointer (some ⟨g, 0, none⟩), .string z] w (FreshPost 106 102 g none X n (.string z) w) := by
  have hX : X = [] := h.map
  subst hX
  have hw := wrap_i (n := n + 1) (by omega) (by omega)
  have hlt := heap_lt h.row.cell
  have hgm : w.heap.size ≠ g := by omega
  obtain ⟨x0, x1, x2, x3⟩ := read4 h.row.cell
  have f0 := frz h.row.cell
  have hc1 : (w.alloc (.map #[] 0)).heap[g]? = some (.cells #[ptr (hd [] none), ptr (lst none []), .map none, .int .i64 n] 102 (0, 0)) := heap_alloc_ne h.row.cell
  have hc2 : ((w.alloc (.map #[] 0)).setCell ⟨g, 2, none⟩ (.map (some w.heap.size))).heap[g]? = some (.cells #[ptr (hd [] none), ptr (lst none []), .map (some w.heap.size), .int .i64 n] 102 (0, 0)) := by rw [heap_setCell hc1]; rfl
  have hc : (((w.alloc (.map #[] 0)).setCell ⟨g, 2, none⟩ (.map (some w.heap.size))).setCell ⟨g, 3, none⟩ (.int .i64 (n + 1))).heap[g]? = some (.cells #[ptr (hd [] none), ptr (lst none []), .map (some w.heap.size), .int .i64 (n + 1)] 102 (0, 0)) := by rw [heap_setCell hc2]; rfl
  have hs : (((w.alloc (.map #[] 0)).setCell ⟨g, 2, none⟩ (.map (some w.heap.size))).setCell ⟨g, 3, none⟩ (.int .i64 (n + 1))).heap.size = w.heap.size + 1 := by simp [World.setCell]
  have hC5 : Chg (fun k => k = g) w ((((w.alloc (.map #[] 0)).setCell ⟨g, 2, none⟩ (.map (some w.heap.size))).setCell ⟨g, 3, none⟩ (.int .i64 (n + 1))).alloc (.cells #[.int .i64 (n + 1), .string z, .pointer none, .pointer none] 106)) := (chg1 (F := fun k => k = g) (chg1 (F := fun k => k = g) ((Chg.refl _ w).alloc _) rfl _) rfl _).alloc _
  have hm1 : IMap ((((w.alloc (.map #[] 0)).setCell ⟨g, 2, none⟩ (.map (some w.heap.size))).setCell ⟨g, 3, none⟩ (.int .i64 (n + 1))).alloc (.cells #[.int .i64 (n + 1), .string z, .pointer none, .pointer none] 106)) w.heap.size [] :=
    (IMap.made w).chg ((chg1 (F := fun k => k = g) (chg1 (F := fun k => k = g) (Chg.refl _ _) rfl _) rfl _).alloc _) hgm
  obtain ⟨w4, hrun, hm4, hg4⟩ := (IMap_drew hm1).store Try.underlying100 Try.underlying3 (n + 1) (.pointer (some ⟨w.heap.size + 1, 0, none⟩))
  have hb := heap_alloc_at (((w.alloc (.map #[] 0)).setCell ⟨g, 2, none⟩ (.map (some w.heap.size))).setCell ⟨g, 3, none⟩ (.int .i64 (n + 1))) (.cells #[.int .i64 (n + 1), .string z, .pointer none, .pointer none] 106)
  rw [hs] at hb
  have fin : FreshPost 106 102 g none [] n (.string z) w (.returned (.pointer (some ⟨w.heap.size + 1, 0, none⟩))) w4 := by
    have hR5 : Row 106 102 ((((w.alloc (.map #[] 0)).setCell ⟨g, 2, none⟩ (.map (some w.heap.size))).setCell ⟨g, 3, none⟩ (.int .i64 (n + 1))).alloc (.cells #[.int .i64 (n + 1), .string z, .pointer none, .pointer none] 106)) g (some w.heap.size) [] (n + 1) :=
      ⟨heap_alloc_ne hc, trivial, by simp, by simp⟩
    obtain ⟨r1, r2⟩ := fresh_fin (m := ⟨w.heap.size + 1, n + 1, .string z⟩) hR5 hb hgm (by simp) (by simp) hg4
    refine ⟨w.heap.size, w.heap.size + 1, rfl, by omega, .inr (Nat.le_refl _), by omega, hgm, r1, r2, ?_, ?_⟩
    · exact MapIs.put (X := []) (m := ⟨w.heap.size + 1, n + 1, .string z⟩) rfl (by simp) (fun k _ => IM.has_nil k) (by simp) (by simp) hm4
    · exact ((hC5.mono (G := Mine g none []) (fun k _ hk => .inl hk)).drew).grown hg4 (fun k hk hk2 => by cases hk; omega)
  have FIN := Lib.hid fin
  have HB := Lib.hid hb
  have HC := Lib.hid hc
  have HC1 := Lib.hid hc1
  have HC2 := Lib.hid hc2
  have HRUN := Lib.hid hrun
  have HG := Lib.hid hgm
  clear h hn0 hn hm1 hrun hb hc hs fin hlt hC5 hm4 hg4 hgm hc1 hc2
  simp only [hd_nil, lst_nil, ptr_none] at x0 x1
  have qT : ∀ (w : World) (r : Option Nat), (binOp .eql 100 (.map r) (.map none)).run Try.prog w = .ok (.bool r.isNone) w := fun w r => run_eql_map_nil w _ _ _ r Try.underlying100
  have hmm := @run_makeMap Try.prog
  go_enter Try.func59, Try.ntmps59
  go_upto_region 2 with (fail)
  obtain ⟨q0, q1, q2, q3⟩ := read4 HC1.out
  have f1 := frz HC1.out
  go_upto_region 3 with (fail)
  clear q0 q1 q2 q3 f1
  obtain ⟨q0, q1, q2, q3⟩ := read4 HC2.out
  have f1 := frz HC2.out
  go_upto_region 5 with (fail)
  clear q0 q1 q2 q3 f1
  obtain ⟨y0, y1, y2, y3⟩ := read4 (heap_alloc_ne (o := .cells #[.int .i64 (n + 1), .string z, .pointer none, .pointer none] 106) HC.out)
  obtain ⟨z0, z1, z2, z3⟩ := read4 HB.out
  have hrun := HRUN.out
  go_region
  go_wp2
  go_ret
  exact FIN.out
theorem fresh_any {w : World} {g : Nat} {mp : Option Nat} {X : List Mem} {n : Int} (z : ByteArray) (h : ChW 106 102 w g mp X n) (hn0 : 0 ≤ n) (hn : n < 1000000) :
    Calls Try.prog 59 #[.pointer (some ⟨g, 0, none⟩), .string z] w (FreshPost 106 102 g mp X n (.string z) w) := by
  cases mp with
  | none => exact fresh_none z h hn0 hn
  | some bm => exact fresh_some z h hn0 hn
theorem new_any (w : World) : Calls Try.prog 16 #[] w fun e w' => ∃ g, e = .returned (.pointer (some ⟨g, 0, none⟩)) ∧ w.heap.size ≤ g ∧ ChW 106 102 w' g none [] 0 ∧ Chg (fun _ => False) w w' := by
  have fin : ChW 106 102 (w.alloc (.cells #[.pointer none, .pointer none, .map none, .int .i64 0] 102)) w.heap.size none [] 0 :=
    ⟨⟨heap_alloc_at _ _, trivial, by simp, by simp⟩, rfl, by simp, by simp, by simp, by simp⟩
  go_enter Try.func16, Try.ntmps16
  go_wp2
  go_ret
  exact ⟨_, rfl, Nat.le_refl _, fin, (Chg.refl _ _).alloc _⟩
set_option maxRecDepth 20000 in
theorem last_any {w : World} {g : Nat} {mp : Option Nat} {X : List Mem} {n : Int} (z : ByteArray) (h : ChW 106 102 w g mp X n) (hn0 : 0 ≤ n) (hn : n < 1000000) :
    Calls Try.prog 17 #[.pointer (some ⟨g, 0, none⟩), .string z] w fun e w' => ∃ b, e = .returned (.int .i64 (n + 1)) ∧ ChPost 106 102 undef g mp X (X ++ ⟨b, n + 1, .string z⟩ :: []) (n + 1) w w' := by
  have hf := fresh_any z h hn0 hn
  have H := Lib.hid h
  have H0 := Lib.hid hn0
  clear h hn0 hn
  go_enter Try.func17, Try.ntmps17
  go_wp2_with fail
  refine hf.mono ?_
  rintro e w1 ⟨bm, b, rfl, hb, hbm, hbb, hbg, hR, hN, hM, hC⟩
  have hap : Apt g X ⟨b, n + 1, .string z⟩ [] := put_apt (A := X) (B := []) (by simpa using H.out) hb
  have hl := link_any (A := X) (B := []) (by simpa using hR) hN hap
  have HF := Lib.hid (fun w2 hR2 hC2 => put_fin (A := X) (B := []) (w1 := w1) (w2 := w2) (by simpa using H.out) H0.out hb hbm hbb hbg (by simpa using hM) (by simpa using hC) hR2 hC2 undef)
  clear hb hbm hbb hbg hR hN hM hC hap hf
  go_wp2_with fail
  refine hl.mono ?_
  rintro e w2 ⟨rfl, hR2, hC2⟩
  have fin := HF.out w2 hR2 hC2
  rw [List.append_nil] at fin
  obtain ⟨y0, y1, y2, y3⟩ := read4 hR2.seg.node
  have FIN := Lib.hid fin
  clear fin hR2 hC2 hl
  go_wp2
  go_ret
  exact ⟨b, rfl, FIN.out⟩
set_option maxRecDepth 20000 in
theorem get_some {w : World} {g : Nat} {mp : Option Nat} {X : List Mem} {n k : Int} {x : Mem} (z : ByteArray) (h : ChW 106 102 w g mp X n) (hk : findH X k = some x) (hz : x.v = .string z) :
    Calls Try.prog 69 #[.pointer (some ⟨g, 0, none⟩), .int .i64 k] w fun e w' => e = .returned (.tuple #[.string z, .bool true]) ∧ w' = w := by
  have hfi := find_any h k
  rw [hk, show ptrM (some x) = .pointer (some ⟨x.b, 0, none⟩) from rfl] at hfi
  obtain ⟨p, q, hn⟩ := h.row.seg.mem x (findH_some hk).1
  obtain ⟨y0, y1, y2, y3⟩ := read4 hn
  rw [hz] at y1
  clear h hn hz
  go_enter Try.func69, Try.ntmps69
  go_wp2_with fail
  refine hfi.mono ?_
  rintro e w' ⟨rfl, rfl⟩
  go_wp2
  go_ret2
  exact ⟨rfl, rfl⟩
set_option maxRecDepth 20000 in
theorem remove_none {w : World} {g : Nat} {mp : Option Nat} {X : List Mem} {n k : Int} (h : ChW 106 102 w g mp X n) (hk : findH X k = none) :
    Calls Try.prog 19 #[.pointer (some ⟨g, 0, none⟩), .int .i64 k] w fun e w' => e = .returned (.tuple #[.string ByteArray.empty, .bool false]) ∧ w' = w := by
  have hfi := find_any h k
  rw [hk, show ptrM none = .pointer none from rfl] at hfi
  clear h
  go_enter Try.func19, Try.ntmps19
  go_wp2_with fail
  refine hfi.mono ?_
  rintro e w' ⟨rfl, rfl⟩
  go_wp2
  go_ret2
  exact ⟨rfl, rfl⟩
set_option maxRecDepth 20000 in
theorem remove_some {w : World} {g : Nat} {mp : Option Nat} {A B : List Mem} {n k : Int} {m : Mem} (z : ByteArray) (h : ChW 106 102 w g mp (A ++ m :: B) n) (hk : findH (A ++ m :: B) k = some m) (hz : m.v = .string z) :
    Calls Try.prog 19 #[.pointer (some ⟨g, 0, none⟩), .int .i64 k] w fun e w' => e = .returned (.tuple #[.string z, .bool true]) ∧ ChPost 106 102 undef g mp (A ++ m :: B) (A ++ B) n w w' := by
  have hfi := find_any h k
  rw [hk, show ptrM (some m) = .pointer (some ⟨m.b, 0, none⟩) from rfl] at hfi
  have hkm : m.h = k := (findH_some hk).2
  cases mp with
  | none =>
    have : A ++ m :: B = [] := h.map
    simp at this
  | some bm =>
    obtain ⟨ps, hm, h1, h2, h3, h4⟩ := h.map
    have hul := unlink_any h.row (Apt.of h.row.nd h.row.ng)
    have H := Lib.hid h
    have HM := Lib.hid hm
    have HX := Lib.hid (⟨h1, h2, h3, h4⟩ : _ ∧ _ ∧ _ ∧ _)
    clear h hm h1 h2 h3 h4 hk
    go_enter Try.func19, Try.ntmps19
    go_wp2_with fail
    refine hfi.mono ?_
    rintro e w' ⟨rfl, rfl⟩
    go_wp2_with fail
    refine hul.mono ?_
    rintro e w1 ⟨rfl, hR, ⟨p, q, hN⟩, hC⟩
    have hnb : ¬ Wr g A m B bm := by
      rintro (e | e | ⟨x, hx, e⟩ | ⟨x, hx, e⟩)
      · exact H.out.gm (by rw [e])
      · exact H.out.xm m (by simp) (by rw [e])
      · exact H.out.xm x (by simp [hx]) (by rw [e])
      · exact H.out.xm x (by simp [hx]) (by rw [e])
    obtain ⟨w2, hrun, hm2, hg⟩ := (HM.out.chg hC hnb).drop Try.underlying100 Try.underlying3 k 0
    have hmb : m.b ≠ bm := fun e => H.out.xm m (by simp) (by rw [e])
    have hN2 : Node 106 w2 m p q := (hg.block _ (heap_lt hN) (fun e => hmb (Option.some.inj e))).trans hN
    obtain ⟨y0, y1, y2, y3⟩ := read4 hN2
    rw [hz] at y1
    obtain ⟨x0, x1, x2, x3⟩ := read4 hR.cell
    have FIN := Lib.hid (cut_fin H.out hR hC rfl HX.out.1 HX.out.2.1 HX.out.2.2.1 HX.out.2.2.2 (by rw [hkm]; exact hm2) hg undef)
    clear hR hN hC hm2 hg hN2 hmb hnb hz hkm
    go_wp2
    go_ret2
    exact ⟨rfl, FIN.out⟩
set_option maxRecDepth 20000 in
theorem info106 : ∃ j, Try.prog.info? 106 = some j ∧ j.size ≠ 0 := by
  have h : (Try.prog.info? 106).map (fun j => j.size) = some 4 := by kernel_rfl
  obtain ⟨j, h1, h2⟩ := Option.map_eq_some_iff.1 h
  exact ⟨j, h1, by rw [h2]; decide⟩
set_option maxRecDepth 20000 in
theorem move_none {w : World} {g : Nat} {mp : Option Nat} {X : List Mem} {n k j : Int} (h : ChW 106 102 w g mp X n) (hk : findH X k = none ∨ findH X j = none) :
    Calls Try.prog 21 #[.pointer (some ⟨g, 0, none⟩), .int .i64 k, .int .i64 j] w fun e w' => e = .returned (.int .i64 5) ∧ w' = w := by
  have hfi := find_any h k
  have hfj := find_any h j
  clear h
  cases h1 : findH X k with
  | none =>
    rw [h1, show ptrM none = .pointer none from rfl] at hfi
    clear hk
    go_enter Try.func21, Try.ntmps21
    go_wp2_with fail
    refine hfi.mono ?_
    rintro e w' ⟨rfl, rfl⟩
    go_wp2_with fail
    refine hfj.mono ?_
    rintro e w' ⟨rfl, rfl⟩
    go_wp2
    go_ret
    exact ⟨rfl, rfl⟩
  | some x =>
    have h2 : findH X j = none := hk.resolve_left (by rw [h1]; simp)
    rw [h1, show ptrM (some x) = .pointer (some ⟨x.b, 0, none⟩) from rfl] at hfi
    rw [h2, show ptrM none = .pointer none from rfl] at hfj
    clear hk h1 h2
    go_enter Try.func21, Try.ntmps21
    go_wp2_with fail
    refine hfi.mono ?_
    rintro e w' ⟨rfl, rfl⟩
    go_wp2_with fail
    refine hfj.mono ?_
    rintro e w' ⟨rfl, rfl⟩
    go_wp2
    go_ret
    exact ⟨rfl, rfl⟩
set_option maxRecDepth 20000 in
theorem move_same {w : World} {g : Nat} {mp : Option Nat} {X : List Mem} {n k j : Int} {x : Mem} (h : ChW 106 102 w g mp X n) (h1 : findH X k = some x) (h2 : findH X j = some x) :
    Calls Try.prog 21 #[.pointer (some ⟨g, 0, none⟩), .int .i64 k, .int .i64 j] w fun e w' => e = .returned (.int .i64 1) ∧ w' = w := by
  have hfi := find_any h k
  have hfj := find_any h j
  obtain ⟨ji, hj1, hj2⟩ := info106
  have hEQ := run_eql_ptr_same (P := Try.prog) w ⟨x.b, 0, none⟩ Try.underlying99 hj1
  clear h hj1 hj2
  rw [h1, show ptrM (some x) = .pointer (some ⟨x.b, 0, none⟩) from rfl] at hfi
  rw [h2, show ptrM (some x) = .pointer (some ⟨x.b, 0, none⟩) from rfl] at hfj
  clear h1 h2
  go_enter Try.func21, Try.ntmps21
  go_wp2_with fail
  refine hfi.mono ?_
  rintro e w' ⟨rfl, rfl⟩
  go_wp2_with fail
  refine hfj.mono ?_
  rintro e w' ⟨rfl, rfl⟩
  go_wp2
  go_ret
  exact ⟨rfl, rfl⟩
set_option maxRecDepth 20000 in
theorem move_some {w : World} {g : Nat} {mp : Option Nat} {A B C D : List Mem} {n k j : Int} {m x : Mem} (h : ChW 106 102 w g mp (A ++ m :: B) n) (h1 : findH (A ++ m :: B) k = some m) (h2 : findH (A ++ m :: B) j = some x) (hAB : A ++ B = C ++ x :: D) :
    Calls Try.prog 21 #[.pointer (some ⟨g, 0, none⟩), .int .i64 k, .int .i64 j] w fun e w' => e = .returned (.int .i64 0) ∧ ChPost 106 102 undef g mp (A ++ m :: B) (C ++ m :: x :: D) n w w' := by
  have hfi := find_any h k
  have hfj := find_any h j
  rw [h1, show ptrM (some m) = .pointer (some ⟨m.b, 0, none⟩) from rfl] at hfi
  rw [h2, show ptrM (some x) = .pointer (some ⟨x.b, 0, none⟩) from rfl] at hfj
  clear h1 h2
  have ha := Apt.of h.row.nd h.row.ng
  have hul := unlink_any h.row ha
  have hx : x ∈ A ++ B := by rw [hAB]; simp
  have hne : x.b ≠ m.b := by
    rcases List.mem_append.1 hx with hx | hx
    · exact ha.am x hx
    · exact ha.bm x hx
  obtain ⟨ji, hj1, hj2⟩ := info106
  obtain ⟨p1, q1, hn1⟩ := h.row.seg.mem m (by simp)
  obtain ⟨p2, q2, hn2⟩ := h.row.seg.mem x (mem_cut hx)
  have hEQ := run_eql_ptr_other (P := Try.prog) (a := ⟨m.b, 0, none⟩) (b := ⟨x.b, 0, none⟩) w Try.underlying99 hj1 hj2 (fun e => hne (by have := congrArg Addr.block e; simpa using this.symm)) hn1 hn2
  clear hj1 hj2 hn1 hn2
  have hap : Apt g C m (x :: D) := Apt.of2 (by rw [← hAB]; exact ha.nodup2) (by rw [← hAB]; exact fun x hx => h.row.ng x (mem_cut hx)) ha.g2 (by
    rw [← hAB]
    intro y hy
    rcases List.mem_append.1 hy with hy | hy
    · exact ha.am y hy
    · exact ha.bm y hy)
  have H := Lib.hid h
  have HA := Lib.hid hAB
  have HP := Lib.hid hap
  clear h ha hx hAB hap hne
  go_enter Try.func21, Try.ntmps21
  go_wp2_with fail
  refine hfi.mono ?_
  rintro e w' ⟨rfl, rfl⟩
  go_wp2_with fail
  refine hfj.mono ?_
  rintro e w' ⟨rfl, rfl⟩
  go_wp2_with fail
  refine hul.mono ?_
  rintro e w1 ⟨rfl, hR, ⟨p, q, hN⟩, hC⟩
  have hl := link_any (A := C) (B := x :: D) (by rw [← HA.out]; exact hR) hN HP.out
  have HC := Lib.hid hC
  clear hR hN hC
  go_wp2_with fail
  refine hl.mono ?_
  rintro e w2 ⟨rfl, hR2, hC2⟩
  have FIN := Lib.hid (move_fin H.out HA.out HC.out hR2 hC2 undef)
  clear hR2 hC2 hl
  go_wp2
  go_ret
  exact ⟨rfl, FIN.out⟩
set_option maxRecDepth 20000 in
set_option maxHeartbeats 1000000 in
theorem handles_any {w : World} {g : Nat} {mp : Option Nat} {X : List Mem} {n : Int} (h : ChW 106 102 w g mp X n) (hX : X.length ≤ 1000000) :
    Calls Try.prog 68 #[.pointer (some ⟨g, 0, none⟩)] w fun e w' => ∃ v, e = .returned v ∧ New 3 .i64 w w' v (X.map (·.h)) := by
  obtain ⟨x0, x1, x2, x3⟩ := read4 h.row.cell
  have H := Lib.hid h
  have HX := Lib.hid hX
  clear h hX
  go_enter Try.func68, Try.ntmps68
  go_wp2
  go_loopw [3, 4] (fun v m wr => ∃ (P S : List Mem) (L : Nat) (A : Option Addr) (c : Nat), X = P ++ S ∧ v = .slice A L c ∧ m = ptr (hd S none) ∧ New 3 .i64 w wr (.slice A L c) (P.map (·.h))) (fun v _ _ => X.length - lenOf v)
  case atStart => exact ⟨[], X, 0, none, 0, rfl, rfl, rfl, New.nil _ _ _⟩
  case round =>
    obtain ⟨P, S, L, A, c, hPS, rfl, rfl, hN⟩ := hrel
    have hL := (New.cap hN).1
    rw [List.length_map] at hL
    have hXL : X.length = L + S.length := by rw [hPS, hL]; simp
    cases S with
    | nil =>
      rw [List.append_nil] at hPS
      rw [← hPS] at hN
      have HN := Lib.hid hN
      simp only [hd_nil, ptr_none]
      clear hN hL hXL hPS
      go_wp2
      go_ret
      exact ⟨_, rfl, HN.out⟩
    | cons x S =>
      have hseg := (H.out.keep hN.2.1 (fun _ _ => id)).row.seg
      rw [hPS] at hseg
      have hnode := hseg.node
      obtain ⟨y0, y1, y2, y3⟩ := read4 hnode
      have hb := HX.out
      obtain ⟨A2, c2, w2, hap, hN2⟩ := hN.push (P := Try.prog) (t := 82) Try.underlying82 info3 (by rw [List.length_map]; exact hL.symm) x.h (by omega) (by omega)
      have hseg2 := (H.out.keep hN2.2.1 (fun _ _ => id)).row.seg
      rw [hPS] at hseg2
      obtain ⟨z0, z1, z2, z3⟩ := read4 hseg2.node
      simp only [hd_cons, ptr_some]
      have HN2 := Lib.hid hN2
      have HL := Lib.hid hXL
      have HP := Lib.hid hPS
      clear hN hN2 hL hXL hPS hseg hseg2 hnode hb
      go_wp2_with (at_builtin; refine wpList_append_run rfl _ _ 82 rfl _ _ _ _ rfl rfl hap ?_)
      go_roundw
      case rel => exact ⟨P ++ [x], S, L + 1, A2, c2, by rw [HP.out]; simp, rfl, rfl, by simpa using HN2.out⟩
      case measure =>
        have := HL.out
        simp only [List.length_cons] at this
        simp only [lenOf]
        omega
/-- The members' handles and values. -/
def Nm (X : List Mem) (L : List (Int × ByteArray)) : Prop := X.map (fun x => (x.h, x.v)) = L.map (fun p => (p.1, Value.string p.2))
def encs (x : Int × ByteArray) : Array Value := #[.int .i64 x.1, Value.string x.2]
theorem Nm.length {X : List Mem} {L : List (Int × ByteArray)} (h : Nm X L) : X.length = L.length := by simpa using congrArg List.length h
theorem Nm.get {X : List Mem} {L : List (Int × ByteArray)} (h : Nm X L) (k : Nat) (hk : k < L.length) : ∃ x ∈ X, ∃ z, L[k]? = some (x.h, z) ∧ x.v = Value.string z ∧ (X.map (·.h))[k]? = some x.h := by
  have hl := h.length
  have h1 := congrArg (fun l => l[k]?) h
  simp only [List.getElem?_map, List.getElem?_eq_getElem hk, List.getElem?_eq_getElem (hl ▸ hk : k < X.length), Option.map_some, Option.some.injEq, Prod.mk.injEq] at h1
  refine ⟨X[k], List.getElem_mem _, (L[k]).2, ?_, h1.2, ?_⟩
  · rw [List.getElem?_eq_getElem hk, h1.1]
  · rw [List.getElem?_map, List.getElem?_eq_getElem (hl ▸ hk : k < X.length)]; rfl
theorem all_any (p : Option Addr) (w : World) : Calls Try.prog 23 #[.pointer p] w fun e w' => e = .returned (.func (.func 67) #[] #[.pointer (some ⟨w.heap.size, 0, none⟩)]) ∧ w' = w.alloc (.cells #[.pointer p] 30) := by
  go_enter Try.func23, Try.ntmps23
  go_wp2
  go_ret
  exact ⟨rfl, rfl⟩
set_option maxRecDepth 20000 in
set_option maxHeartbeats 2000000 in
theorem all_stops (n n₀ B cb g : Nat) (mp : Option Nat) (X : List Mem) (nn : Int) (L : List (Int × ByteArray)) (w : World) (hcb : w.heap[cb]? = some (.cells #[.pointer (some ⟨g, 0, none⟩)] 30 (0, 0))) (hch : ChW 106 102 w g mp X nn) (hX : X.length ≤ 1000000) (hL : Nm X L) (hn₀ : ∀ k, Mine g mp X k → k < n₀)
    (hB : B < w.heap.size) (hBv : ∀ v k, w.cell? ⟨B, 0, none⟩ = some v → v.ownBlock = some k → k < w.heap.size) (hown : ∀ k, (k = cb ∨ Mine g mp X k) → ¬ OutOwn B w k) :
    SeqStopsK Fence.wide n Try.prog 67 #[.pointer (some ⟨cb, 0, none⟩)] encs (Kept n₀ B) (fun xs => xs = L) (fun pre => pre <+: L) L.length w := fun l J Jx W hW hJ hJx hY h0 => by
  have hcbW : W.heap[cb]? = some (.cells #[.pointer (some ⟨g, 0, none⟩)] 30 (0, 0)) := (hW.block cb (heap_lt hcb)).trans hcb
  have hchW : ChW 106 102 W g mp X nn := hch.same (fun k hk => hW.block k (hch.lt hk))
  have hh := handles_any hchW hX
  have hc0 := cell_of hcbW 0 rfl
  refine callsIn_of_wp Try.func67 rfl trivial ?_ rfl
  simp only [Try.ntmps67, List.size_toArray, List.length_cons, List.length_nil, Nat.reduceAdd, Nat.reduceSub, Array.replicate_succ, Array.replicate_zero, List.push_toArray, List.append_toArray, List.nil_append, List.cons_append]
  have HH := Lib.hid (⟨hcb, hch, hX, hL, hn₀, hB, hBv, hown, hW, hJ, hJx, hY, h0⟩ : _ ∧ _ ∧ _ ∧ _ ∧ _ ∧ _ ∧ _ ∧ _ ∧ _ ∧ _ ∧ _ ∧ _ ∧ _)
  clear hcb hch hX hL hn₀ hB hBv hown hW hJ hJx hY h0
  gi_wp2_with fail
  refine ⟨trivial, (fun h => by cases h), (callsIn_wide.2 hh).mono ?_⟩
  rintro e W1 ⟨v, rfl, hNew⟩
  obtain ⟨A, m, c, rfl, hm, hr⟩ := hNew.form3
  obtain ⟨hcb, hch, hX, hL, hn₀, hB, hBv, hown, hW, hJ, hJx, hY, h0⟩ := HH.out
  have hml : m = X.length := by rw [hm, List.length_map]
  have hfr : ∀ a, A = some a → W.heap.size ≤ a.block := fun a ha => hNew.2.2 _ (by rw [ha]; rfl)
  have hC := hNew.2.1
  have hBW : B < W.heap.size := Nat.lt_of_lt_of_le hB hW.size
  have hB1 : W1.heap[B]? = w.heap[B]? := (hC.block B hBW id).trans (hW.block B hB)
  have hsafe : ∀ k, (k = cb ∨ Mine g mp X k ∨ ∃ a, A = some a ∧ a.block = k ∧ k < W1.heap.size) → Safe n₀ B W1 k := by
    have hold : ∀ k, OutOwn B W1 k → OutOwn B w k := fun k hk => hk.old hB hBv (Nat.le_trans hW.size hC.size) hB1
    rintro k (rfl | hk | ⟨a, ha, hk, hlt⟩)
    · refine ⟨fun ho => hown k (.inl rfl) (hold k ho), _, (hC.block k (heap_lt hcbW) id).trans hcbW, .inl rfl⟩
    · obtain ⟨o, ho⟩ : ∃ o, W1.heap[k]? = some o := ⟨_, Array.getElem?_eq_getElem (Nat.lt_of_lt_of_le (hchW.lt hk) hC.size)⟩
      exact ⟨fun h1 => hown k (.inr hk) (hold k h1), o, ho, .inr (hn₀ k hk)⟩
    · obtain ⟨o, ho⟩ : ∃ o, W1.heap[k]? = some o := ⟨_, Array.getElem?_eq_getElem hlt⟩
      refine ⟨fun h1 => ?_, o, ho, ?_⟩
      · have h2 := (hold k h1).1
        have h3 := hfr a ha
        have h4 := hW.size
        omega
      · have hown1 := hNew.1
        rcases hown1.2 with ⟨hv, h0⟩ | ⟨g', cap, cur, hv, hbg, hg, _⟩
        · subst ha; cases hv
        · subst ha
          cases hv
          subst hk
          rw [hg] at ho
          cases ho
          exact .inl rfl
  have hch1 : ChW 106 102 W1 g mp X nn := hchW.keep hC (fun _ _ => id)
  have hcb1 : W1.heap[cb]? = some (.cells #[.pointer (some ⟨g, 0, none⟩)] 30 (0, 0)) := (hC.block cb (heap_lt hcbW) id).trans hcbW
  have hJ1 : J [] W1 := hJ [] W W1 none h0 (grownBy_of_chg hC) (fun r e => by cases e)
  have HF := Lib.hid (⟨hsafe, hch1, hcb1, hL, hr, hX, hml, hY⟩ : _ ∧ _ ∧ _ ∧ _ ∧ _ ∧ _ ∧ _ ∧ _)
  clear HH hcb hch hX hL hn₀ hB hBv hown hW hJ hJx hY h0 hcbW hchW hh hc0 hNew hm hr hml hfr hC hBW hB1 hsafe hch1 hcb1
  have HJ1 := Lib.hid hJ1
  clear hJ1
  gi_wp2
  gi_loopw [10] (fun i wr => ∃ k : Nat, i = .int .i64 k ∧ k ≤ X.length ∧ J (L.take k) wr ∧ (∀ x, (x = cb ∨ Mine g mp X x ∨ ∃ a, A = some a ∧ a.block = x ∧ x < W1.heap.size) → wr.heap[x]? = W1.heap[x]? ∧ Safe n₀ B wr x)) (fun i _ => X.length - (intOf i).toNat)
  case atStart => exact ⟨0, rfl, by omega, HJ1.out, fun x hx => ⟨rfl, HF.out.1 x hx⟩⟩
  case round =>
    obtain ⟨k, rfl, hk, hJk, hst⟩ := hrel
    obtain ⟨hsafe, hch1, hcb1, hL, hr, hX, hml, hY⟩ := HF.out
    have hchR : ChW 106 102 wr g mp X nn := hch1.same (fun x hx => (hst x (.inr (.inl hx))).1)
    have hcbR : wr.heap[cb]? = some (.cells #[.pointer (some ⟨g, 0, none⟩)] 30 (0, 0)) := (hst cb (.inl rfl)).1.trans hcb1
    have hc0 := cell_of hcbR 0 rfl
    have hLl := hL.length
    by_cases hkl : k < X.length
    · obtain ⟨x, hx, z, hxL, hxv, hxh⟩ := hL.get k (hLl ▸ hkl)
      obtain ⟨g', o, rfl, hcell⟩ := ReadsI.plain hr (by intro e; rw [List.map_eq_nil_iff] at e; rw [e] at hkl; simp at hkl)
      have hcell0 := hcell k (by rw [List.length_map]; exact hkl)
      have hcell1 : wr.cell? ⟨g', o + k, none⟩ = some (.int .i64 x.h) := by
        rw [World.cell?_of_block (w := W1) (hst g' (.inr (.inr ⟨_, rfl, rfl, World.block_lt_of_cell? W1 _ hcell0⟩))).1, hcell0, List.getD_eq_getElem?_getD, hxh]
        rfl
      have hget := get_some z hchR (findH_nd hchR.hs hx) hxv
      have hLk : L.take (k + 1) = L.take k ++ [(x.h, z)] := by
        rw [List.take_add_one, hxL]; rfl
      obtain ⟨fn, tmps, assign, body, hy, hR⟩ := hY (L.take k) (x.h, z) wr hJk (by rw [List.length_take]; omega)
      dsimp only [encs] at hy
      have hkm : (k : Int) < m := by rw [hml]; omega
      have HW := Lib.hid (show wrap64 ((k : Int) + 1) = ((k + 1 : Nat) : Int) by unfold wrap64; omega)
      have HG := Lib.hid (⟨hst, hLk, hkl, hLl⟩ : _ ∧ _ ∧ _ ∧ _)
      clear hchR hcbR hst hsafe hch1 hcb1 hL hr hX hml hY hcell hcell0 hx hxL hxv hxh hLk hLl hkl hJk hk
      gi_wp2_with fail
      refine ⟨trivial, (fun h => by cases h), (callsIn_wide.2 hget).mono ?_⟩
      rintro e w' ⟨rfl, rfl⟩
      clear hget
      gi_wp2
      refine ⟨(fun h => by cases h), hR.mono ?_⟩
      rintro e W3 (⟨rfl, hJ3, hk3⟩ | ⟨rfl, hJx3⟩)
      · obtain ⟨hst, hLk, hkl, hLl⟩ := HG.out
        rw [← hLk] at hJ3
        have hst3 : ∀ x, (x = cb ∨ Mine g mp X x ∨ ∃ a, some (⟨g', o, none⟩ : Addr) = some a ∧ a.block = x ∧ x < W1.heap.size) → W3.heap[x]? = W1.heap[x]? ∧ Safe n₀ B W3 x := fun x hx => by
          obtain ⟨h1, h2⟩ := hst x hx
          obtain ⟨h3, h4⟩ := h2.kept hk3
          exact ⟨h3.trans h1, h4⟩
        have HJ3 := Lib.hid hJ3
        have HK := Lib.hid hkl
        have HS := Lib.hid hst3
        clear hJ3 hk3 hst hLk hkl hLl hst3 HG hy hR
        gi_wp2
        go_roundw
        case rel => exact ⟨k + 1, by rw [HW.out], HK.out, HJ3.out, HS.out⟩
        case measure =>
          have h1 := HK.out
          rw [HW.out]
          simp only [intOf, Int.toNat_natCast]
          omega
      · gi_wp2
        refine bodyPost_ret (results_none rfl _ _ _) rfl ?_
        refine ⟨⟨_, rfl⟩, .inr ⟨L.take k ++ [(x.h, z)], ?_, hJx3⟩⟩
        rw [← HG.out.2.1]
        exact List.take_prefix _ _
    · obtain rfl : k = X.length := by omega
      rw [hLl, List.take_length] at hJk
      have hkm : ¬ (X.length : Int) < m := by rw [hml]; omega
      have HJk := Lib.hid hJk
      clear hchR hcbR hst hsafe hch1 hcb1 hL hr hX hml hY hLl hkl hJk hk
      gi_wp2
      go_end0
      first | exact ⟨⟨_, rfl⟩, .inl ⟨L, rfl, HJk.out⟩⟩ | exact ⟨⟨_, rfl⟩, .inl HJk.out⟩
end Go.Proofs.Ythoagpagnldmeaa.S
