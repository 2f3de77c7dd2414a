/- Marks: what the program's marks are in memory, and what each of its functions does. -/
import Derived.Test.YtaifgalpeaaliaaProg
import Derived.Test.YtaifgalpeaaliaaKit
import Derived.Outline
import Derived.RegionTactic
import Derived.ChangeAlike
import Derived.Deep.QuietTactic
import Derived.BigQuiet
import Derived.StillTailTactics
set_option linter.unusedVariables false
set_option linter.unusedSimpArgs false
namespace Go.Proofs.Ytaifgalpeaaliaa
open Go.RowKit Go.Ps

theorem info5 : (Try.prog.info? 5).map (fun i => (i.zero, i.size, i.bytes)) = some (some (.int .u8 0), 1, 1) := by kernel_rfl

/-- Block b is a Marks over the bytes of block g. -/
structure MRep (w : World) (b g : Nat) (size : Int) (bs : List Int) : Prop where
  hb : w.heap[b]? = some (.cells #[.int .i64 size, .slice (some ⟨g, 0, none⟩) bs.length bs.length] 44 (0, 0))
  hg : w.heap[g]? = some (.cells (bs.map (Value.int .u8)).toArray 5 (0, 0))
  ne : b ≠ g
  lo : 0 ≤ size
  hi : size ≤ 4096
  len : (bs.length : Int) = (size + 7) / 8

theorem MRep.kept {w w' : World} {b g : Nat} {size : Int} {bs : List Int} (h : MRep w b g size bs) {F : Nat → Prop} (hc : Chg F w w') (h1 : ¬ F b) (h2 : ¬ F g) : MRep w' b g size bs :=
  ⟨(hc.block b (heap_lt h.hb) h1).trans h.hb, (hc.block g (heap_lt h.hg) h2).trans h.hg, h.ne, h.lo, h.hi, h.len⟩

def clamp (i : Int) : Int := if i < 0 then 0 else if 4096 < i then 4096 else i
def newBytes (s : Int) : List Int := List.replicate ((s + 7) / 8).toNat 0

def NewPost (s : Int) (w : World) (e : Ending) (w' : World) : Prop :=
  ∃ b g, e = .returned (.pointer (some ⟨b, 0, none⟩)) ∧ MRep w' b g s (newBytes s) ∧ w.heap.size ≤ b ∧ w.heap.size ≤ g ∧ Chg (fun _ => False) w w'

theorem new_end (s : Int) (h0 : 0 ≤ s) (h1 : s ≤ 4096) (w : World) : NewPost s w (.returned (.pointer (some ⟨w.heap.size + 1, 0, none⟩)))
    ((w.alloc (.cells (List.replicate ((s + 7) / 8).toNat (.int .u8 0)).toArray 5)).alloc (.cells #[.int .i64 s, .slice (some ⟨w.heap.size, 0, none⟩) ((s + 7) / 8).toNat ((s + 7) / 8).toNat] 44)) := by
  refine ⟨_, w.heap.size, rfl, ⟨?_, ?_, by omega, h0, h1, ?_⟩, by omega, by omega, ((Chg.refl _ _).alloc _).alloc _⟩
  · have := heap_alloc_at (w.alloc (.cells (List.replicate ((s + 7) / 8).toNat (.int .u8 0)).toArray 5)) (.cells #[.int .i64 s, .slice (some ⟨w.heap.size, 0, none⟩) ((s + 7) / 8).toNat ((s + 7) / 8).toNat] 44)
    simp only [World.size_alloc] at this
    rw [this]
    simp [newBytes]
  · refine heap_alloc_ne ?_
    rw [heap_alloc_at]
    simp [newBytes]
  · simp [newBytes]
    omega

def zs512 : Array Value := (List.replicate ((4096 + 7) / 8 : Int).toNat (.int .u8 0)).toArray
theorem make512 (w : World) : (Instr.makeSlice 28 (.int .i64 512) (.int .i64 512)).run Try.prog w = .ok (.slice (some ⟨w.heap.size, 0, none⟩) 512 512) (w.alloc (.cells zs512 5)) :=
  run_make_rep 28 5 (.int .u8 0) 1 Try.underlying28 info5 rfl .i64 .i64 512 (by omega) (by omega) (by omega) w

theorem new_any (i : Int) (w : World) : Calls Try.prog 12 #[.int .i64 i] w (NewPost (clamp i) w) := by
  by_cases h1 : i < 0
  · have e : clamp i = 0 := by simp [clamp, h1]
    rw [e]
    have hmk := fun w' => run_make_rep 28 5 (.int .u8 0) 1 Try.underlying28 info5 rfl .i64 .i64 0 (by omega) (by omega) (by omega) w'
    go_enter Try.func12, Try.ntmps12
    go_wp2
    go_ret
    exact new_end 0 (by omega) (by omega) w
  · by_cases h2 : 4096 < i
    · have e : clamp i = 4096 := by simp [clamp, h1, h2]
      rw [e]
      have hmk := make512
      go_enter Try.func12, Try.ntmps12
      go_wp2
      go_ret
      exact new_end 4096 (by omega) (by omega) w
    · have e : clamp i = i := by simp [clamp, h1, h2]
      rw [e]
      have hmk := fun w' => run_make_rep 28 5 (.int .u8 0) 1 Try.underlying28 info5 rfl .i64 .i64 ((i + 7) / 8) (by omega) (by omega) (by omega) w'
      have h3 : 0 ≤ i := by omega
      have h4 : i ≤ 4096 := by omega
      go_enter Try.func12, Try.ntmps12
      go_wp2
      go_ret
      exact new_end i (by omega) (by omega) w

theorem has_nil (i : Int) (w : World) : Calls Try.prog 8 #[.pointer none, .int .i64 i] w fun e w' => e = .returned (.bool false) ∧ w = w' := by
  go_enter Try.func8, Try.ntmps8
  go_wp2
  go_ret
  exact ⟨rfl, rfl⟩
theorem set_nil (i : Int) (w : World) : Calls Try.prog 7 #[.pointer none, .int .i64 i] w fun e w' => e = .returned (.int .i64 1) ∧ w = w' := by
  go_enter Try.func7, Try.ntmps7
  go_wp2
  go_ret
  exact ⟨rfl, rfl⟩
theorem size_nil (w : World) : Calls Try.prog 10 #[.pointer none] w fun e w' => e = .returned (.int .i64 0) ∧ w = w' := by
  go_enter Try.func10, Try.ntmps10
  go_wp2
  go_ret
  exact ⟨rfl, rfl⟩
theorem bytes_nil (w : World) : Calls Try.prog 11 #[.pointer none] w fun e w' => e = .returned (.slice none 0 0) ∧ w = w' := by
  go_enter Try.func11, Try.ntmps11
  go_wp2
  go_ret
  exact ⟨rfl, rfl⟩
theorem count_nil (w : World) : Calls Try.prog 9 #[.pointer none] w fun e w' => e = .returned (.int .i64 0) ∧ w = w' := by
  go_enter Try.func9, Try.ntmps9
  go_wp2_with (go_at_call 10; refine (size_nil _).mono ?_; rintro e w' ⟨rfl, rfl⟩)
  go_loop [3, 7] (fun n i => n = .int .i64 0 ∧ i = .int .i64 0) (fun _ _ => 0)
  case atStart => exact ⟨rfl, rfl⟩
  case round =>
    obtain ⟨rfl, rfl⟩ := hrel
    go_wp2
    go_ret
    exact ⟨rfl, rfl⟩

/-! ### marks that are there -/
def rdI (l : List Int) (i : Int) : Int := l.getD i.toNat 0
def bitOf (bs : List Int) (i : Int) : Bool := bits .and .u8 (rdI bs (i / 8) / 2 ^ (i % 8).toNat) 1 == 1
def hasB (size : Int) (bs : List Int) (i : Int) : Bool := decide (0 ≤ i ∧ i < size) && bitOf bs i
def setBs (bs : List Int) (i : Int) : List Int := bs.set (i / 8).toNat (bits .or .u8 (rdI bs (i / 8)) (2 ^ (i % 8).toNat % 256))

theorem MRep.c0 {w : World} {b g : Nat} {size : Int} {bs : List Int} (h : MRep w b g size bs) : w.cell? ⟨b, 0, none⟩ = some (.int .i64 size) := cell_of h.hb 0 rfl
theorem MRep.c1 {w : World} {b g : Nat} {size : Int} {bs : List Int} (h : MRep w b g size bs) : w.cell? ⟨b, 1, none⟩ = some (.slice (some ⟨g, 0, none⟩) bs.length bs.length) := cell_of h.hb 1 rfl
theorem MRep.cy {w : World} {b g : Nat} {size : Int} {bs : List Int} (h : MRep w b g size bs) {j : Int} (h0 : 0 ≤ j) (h1 : j < bs.length) : w.cell? ⟨g, j.toNat, none⟩ = some (.int .u8 (rdI bs j)) := by
  refine cell_of h.hg _ ?_
  have hlt : j.toNat < bs.length := by omega
  simp [rdI, hlt]

theorem has_any (i : Int) (w : World) (b g : Nat) (size : Int) (bs : List Int) (h : MRep w b g size bs) :
    Calls Try.prog 8 #[.pointer (some ⟨b, 0, none⟩), .int .i64 i] w fun e w' => e = .returned (.bool (hasB size bs i)) ∧ w = w' := by
  have c0 := h.c0
  have c1 := h.c1
  have hs := h.hi
  have hlen := h.len
  by_cases h0 : 0 ≤ i
  · by_cases h1 : i < size
    · have h2 : 0 ≤ i / 8 := by omega
      have h3 : i / 8 < (bs.length : Int) := by omega
      have cy := h.cy h2 h3
      have e : hasB size bs i = (bits .and .u8 (rdI bs (i / 8) / 2 ^ (i % 8).toNat) 1 == 1) := by simp [hasB, bitOf, h0, h1]
      rw [e]
      clear hlen
      go_enter Try.func8, Try.ntmps8
      go_wp2
      go_ret
      exact ⟨rfl, rfl⟩
    · have e : hasB size bs i = false := by simp [hasB, h1]
      rw [e]
      clear hlen
      go_enter Try.func8, Try.ntmps8
      go_wp2
      go_ret
      exact ⟨rfl, rfl⟩
  · have e : hasB size bs i = false := by simp [hasB, h0]
    rw [e]
    clear hlen
    go_enter Try.func8, Try.ntmps8
    go_wp2
    go_ret
    exact ⟨rfl, rfl⟩

theorem size_any (w : World) (b g : Nat) (size : Int) (bs : List Int) (h : MRep w b g size bs) : Calls Try.prog 10 #[.pointer (some ⟨b, 0, none⟩)] w fun e w' => e = .returned (.int .i64 size) ∧ w = w' := by
  have c0 := h.c0
  go_enter Try.func10, Try.ntmps10
  go_wp2
  go_ret
  exact ⟨rfl, rfl⟩

def setCode (size : Int) (bs : List Int) (i : Int) : Int := if i < 0 ∨ size ≤ i then 5 else if bitOf bs i then 6 else 0
def setAfter (size : Int) (bs : List Int) (i : Int) : List Int := if setCode size bs i = 0 then setBs bs i else bs

def SetPost (w : World) (b g : Nat) (size : Int) (bs : List Int) (i : Int) (e : Ending) (w' : World) : Prop :=
  e = .returned (.int .i64 (setCode size bs i)) ∧ MRep w' b g size (setAfter size bs i) ∧ Chg (fun k => k = g) w w'

theorem set_any (i : Int) (w : World) (b g : Nat) (size : Int) (bs : List Int) (h : MRep w b g size bs) :
    Calls Try.prog 7 #[.pointer (some ⟨b, 0, none⟩), .int .i64 i] w (SetPost w b g size bs i) := by
  have c0 := h.c0
  have c1 := h.c1
  have hs := h.hi
  have hlen := h.len
  have stay : setCode size bs i ≠ 0 → SetPost w b g size bs i (.returned (.int .i64 (setCode size bs i))) w := fun hne => ⟨rfl, by rw [setAfter, if_neg hne]; exact h, Chg.refl _ _⟩
  by_cases h0 : 0 ≤ i
  · by_cases h1 : i < size
    · have h2 : 0 ≤ i / 8 := by omega
      have h3 : i / 8 < (bs.length : Int) := by omega
      have cy := h.cy h2 h3
      have fz : w.frozen? ⟨g, (i / 8).toNat, none⟩ = false := frozen_of h.hg _
      have eh : hasB size bs i = bitOf bs i := by simp [hasB, h0, h1]
      by_cases hb : bitOf bs i = true
      · have e : setCode size bs i = 6 := by simp [setCode, hb]; omega
        rw [e] at stay
        have fin := stay (by omega)
        rw [hb] at eh
        clear hlen stay e hb
        go_enter Try.func7, Try.ntmps7
        go_wp2_with (go_at_call 8; refine (has_any i _ b g size bs h).mono ?_; rw [eh]; rintro e w' ⟨rfl, rfl⟩)
        go_ret
        exact fin
      · rw [Bool.not_eq_true] at hb
        have e : setCode size bs i = 0 := by simp [setCode, hb]; omega
        have ea : setAfter size bs i = setBs bs i := by rw [setAfter, if_pos e]
        have fin : SetPost w b g size bs i (.returned (.int .i64 0)) (w.setCell ⟨g, (i / 8).toNat, none⟩ (.int .u8 (bits .or .u8 (rdI bs (i / 8)) (2 ^ (i % 8).toNat % 256)))).drew := by
          refine ⟨by rw [e], ?_, ((Chg.refl (fun k => k = g) w).setCell (fun _ => rfl) _).drew⟩
          rw [ea]
          refine ⟨?_, ?_, h.ne, h.lo, h.hi, by simp [setBs]; exact hlen⟩
          · show (w.setCell _ _).heap[b]? = _
            rw [heap_setCell_ne h.ne]
            simp only [setBs, List.length_set]
            exact h.hb
          · show (w.setCell _ _).heap[g]? = _
            rw [heap_setCell h.hg]
            simp [setBs, List.map_set]
        rw [hb] at eh
        clear hlen stay e hb ea
        have q1 : IntKind.i64.wrap (i.tdiv 8) = i / 8 := IntWalk.i64_quo i 8 (by omega)
        have q2 : i.tmod 8 = i % 8 := IntWalk.rem_in i 8 h0
        have q3 : 0 ≤ i % 8 := by omega
        go_enter Try.func7, Try.ntmps7
        go_wp2_with (go_at_call 8; refine (has_any i _ b g size bs h).mono ?_; rw [eh]; rintro e w' ⟨rfl, rfl⟩)
        go_still_tail 13, (by kernel_rfl)
        change wpList _ _ _ _ _ w.drew
        go_wp2
        go_ret
        exact fin
    · have e : setCode size bs i = 5 := by simp [setCode]; omega
      rw [e] at stay
      have fin := stay (by omega)
      clear hlen stay e
      go_enter Try.func7, Try.ntmps7
      go_wp2
      go_ret
      exact fin
  · have e : setCode size bs i = 5 := by simp [setCode]; omega
    rw [e] at stay
    have fin := stay (by omega)
    clear hlen stay e
    go_enter Try.func7, Try.ntmps7
    go_wp2
    go_ret
    exact fin

def cnt (size : Int) (bs : List Int) : Nat → Int
  | 0 => 0
  | n + 1 => cnt size bs n + if hasB size bs n then 1 else 0
theorem cnt_bd (size : Int) (bs : List Int) (n : Nat) : 0 ≤ cnt size bs n ∧ cnt size bs n ≤ n := by
  induction n with
  | zero => simp [cnt]
  | succ n ih => simp only [cnt]; split <;> omega

theorem count_any (w : World) (b g : Nat) (size : Int) (bs : List Int) (h : MRep w b g size bs) : Calls Try.prog 9 #[.pointer (some ⟨b, 0, none⟩)] w fun e w' => e = .returned (.int .i64 (cnt size bs size.toNat)) ∧ w = w' := by
  obtain ⟨n, hn⟩ : ∃ n : Nat, size = n := ⟨size.toNat, by have := h.lo; omega⟩
  subst hn
  have hs := h.hi
  rw [Int.toNat_natCast]
  go_enter Try.func9, Try.ntmps9
  go_wp2_with (go_at_call 10; refine (size_any _ b g n bs h).mono ?_; rintro e w' ⟨rfl, rfl⟩)
  go_loop [3, 7] (fun c i => ∃ k : Nat, k ≤ n ∧ c = .int .i64 (cnt n bs k) ∧ i = .int .i64 k) (fun _ i => n - (intOf i).toNat)
  case atStart => exact ⟨0, Nat.zero_le _, rfl, rfl⟩
  case round =>
    obtain ⟨k, hk, rfl, rfl⟩ := hrel
    have bd := cnt_bd n bs k
    by_cases hlt : k < n
    · by_cases hb : hasB n bs k = true
      · have hc : Hid (cnt n bs (k + 1) = cnt n bs k + 1) := by show cnt n bs (k + 1) = cnt n bs k + 1; simp [cnt, hb]
        go_wp2_with (go_at_call 8; refine (has_any k _ b g n bs h).mono ?_; rw [hb]; rintro e w' ⟨rfl, rfl⟩)
        go_round
        case rel => exact ⟨k + 1, by omega, by rw [hc.out], by go_num⟩
        case measure => simp [intOf]; omega
      · rw [Bool.not_eq_true] at hb
        have hc : Hid (cnt n bs (k + 1) = cnt n bs k) := by show cnt n bs (k + 1) = cnt n bs k; simp [cnt, hb]
        go_wp2_with (go_at_call 8; refine (has_any k _ b g n bs h).mono ?_; rw [hb]; rintro e w' ⟨rfl, rfl⟩)
        go_round
        case rel => exact ⟨k + 1, by omega, by rw [hc.out], by go_num⟩
        case measure => simp [intOf]; omega
    · have hkn : k = n := by omega
      subst hkn
      go_wp2
      go_ret
      exact ⟨rfl, rfl⟩

def OwnPost (e : TypeId) (q : IntKind) (l : List Int) (w : World) (en : Ending) (w' : World) : Prop :=
  ∃ v, en = .returned v ∧ w'.ownsRow w.heap.size e 1 v l.length (l.map (Value.int q)) ∧ Below w.heap.size w w'

theorem clone_any (w : World) (A : Option Addr) (c : Nat) (l : List Int) (hl : l.length ≤ 140737488351232) (hr : ReadsI w .u8 A l) :
    Calls Try.prog 18 #[.slice A l.length c] w (OwnPost 5 .u8 l w) := by
  have hmax : l.length ≤ maxLen := by unfold maxLen; omega
  have heq := fun wx => Lib.run_eql_slice_nil (P := Try.prog) (w := wx)
  cases A with
  | none =>
    obtain rfl := hr.none
    have fin : OwnPost 5 .u8 [] w (.returned (.slice none 0 0)) w := ⟨_, rfl, World.ownsRow_nil _ _ _ _, Below.refl _ _⟩
    go_enter Try.func18, Try.ntmps18
    go_wp2
    go_ret
    exact fin
  | some a =>
    obtain ⟨i0, hi, hz0, hz1, hz2⟩ := info_parts info5
    have hnews := hr.alloc (.cells #[] 5)
    have hone : ∀ u ∈ l.map (Value.int .u8), u.oneCell' = true := ints_oneCell .u8 l
    clear hr
    go_enter Try.func18, Try.ntmps18
    go_wp2_with (at_builtin; refine wpList_append_own_at _ rfl _ _ 28 rfl w.heap.size 5 i0 (.int .u8 0) 1 1 Try.underlying28 hi hz0 hz1 hz2 rfl (by decide) _ _ _ rfl (World.ownsRow_made w #[] 0 (Nat.le_refl _) (by decide) rfl) a l.length c (l.map (Value.int .u8)) rfl (by simp) hnews.cells hone (by rw [Nat.zero_add]; exact hmax) (by omega) (by simp) ?_; intro v' w1 hown' hgrow hnil hat)
    go_ret
    rw [Nat.zero_add, List.nil_append] at hown'
    refine ⟨_, rfl, hown', ((Below.refl _ _).alloc (Nat.le_refl _) _).grown hgrow (by simp) (fun k hk => ?_)⟩
    cases hk
    exact Nat.le_refl _

theorem bytes_any (w : World) (b g : Nat) (size : Int) (bs : List Int) (h : MRep w b g size bs) : Calls Try.prog 11 #[.pointer (some ⟨b, 0, none⟩)] w (OwnPost 5 .u8 bs w) := by
  have c1 := h.c1
  have hr : ReadsI w .u8 (some ⟨g, 0, none⟩) bs := ReadsI.of_block h.hg
  have hl : bs.length ≤ 140737488351232 := by have := h.len; have := h.hi; omega
  go_enter Try.func11, Try.ntmps11
  go_wp2_with (go_at_call 18; refine (clone_any w _ _ bs hl hr).mono ?_; rintro e w' ⟨v, rfl, hown, hb⟩)
  go_ret
  exact ⟨_, rfl, hown, hb⟩

theorem awake_set (w : World) (b g : Nat) (h : MRep w b g 3 [0]) : Calls Try.prog 7 #[.pointer (some ⟨b, 0, none⟩), .int .i64 2] w fun e w' => e = .returned (.int .i64 0) ∧ MRep w' b g 3 [4] ∧ Chg (fun k => k = g) w w' := by
  refine (set_any 2 w b g 3 [0] h).mono ?_
  rintro e w' ⟨rfl, hm, hc⟩
  have e1 : setCode 3 [0] 2 = 0 := by decide +kernel
  have e2 : setAfter 3 [0] 2 = [4] := by decide +kernel
  rw [e2] at hm
  exact ⟨by rw [e1], hm, hc⟩
theorem awake_has (w : World) (b g : Nat) (h : MRep w b g 3 [4]) : Calls Try.prog 8 #[.pointer (some ⟨b, 0, none⟩), .int .i64 2] w fun e w' => e = .returned (.bool true) ∧ w = w' := by
  have e1 : hasB 3 [4] 2 = true := by decide +kernel
  have := has_any 2 w b g 3 [4] h
  rwa [e1] at this

theorem awake_any (w : World) : Calls Try.prog 6 #[] w fun e w' => e = .returned (.bool true) ∧ Below w.heap.size w w' := by
  go_enter Try.func6, Try.ntmps6
  go_wp2_with (first | (go_at_call 12; refine (new_any 3 w).mono ?_; rintro e w1 ⟨b, g, rfl, hm, hb, hg, hc1⟩) | (go_at_call 7; refine (awake_set _ _ _ hm).mono ?_; rintro e w2 ⟨rfl, hm2, hc2⟩) | (go_at_call 8; refine (awake_has _ _ _ hm2).mono ?_; rintro e w3 ⟨rfl, rfl⟩) | (go_at_call 10; refine (size_any _ _ _ _ _ hm2).mono ?_; rintro e w3 ⟨rfl, rfl⟩))
  go_ret
  refine ⟨rfl, (hc1.trans hc2 (fun j hj hg' => by omega)).below (fun k hk => ⟨hk, id⟩)⟩

theorem marksNil_walk (i : Int) (w : World) (_wf : (Lit.int .i64 i).wf = true) : Calls Try.prog 3 #[.int .i64 i] w fun e w' => e = .returned (.bool true) ∧ Below w.heap.size w w' := by
  go_enter Try.func3, Try.ntmps3
  go_wp2_with (first | (go_at_call 6; refine (awake_any w).mono ?_; rintro e w1 ⟨rfl, hb⟩) | (go_at_call 7; refine (set_nil i _).mono ?_; rintro e w2 ⟨rfl, rfl⟩) | (go_at_call 8; refine (has_nil i _).mono ?_; rintro e w3 ⟨rfl, rfl⟩) | (go_at_call 9; refine (count_nil _).mono ?_; rintro e w3 ⟨rfl, rfl⟩) | (go_at_call 10; refine (size_nil _).mono ?_; rintro e w3 ⟨rfl, rfl⟩) | (go_at_call 11; refine (bytes_nil _).mono ?_; rintro e w3 ⟨rfl, rfl⟩))
  go_ret
  exact ⟨rfl, hb⟩
end Go.Proofs.Ytaifgalpeaaliaa
