/- Marks: what the document's marks are in memory (a size and a map), and what each of their functions does. -/
import Derived.Test.YtaifgalpeaaliaaMk
import Derived.Deep.RegionHeld3
import Derived.OpenShut
set_option linter.unusedVariables false
set_option linter.unusedSimpArgs false
namespace Go.Proofs.Ytaifgalpeaaliaa
open Go.RowKit Go.Ps

structure RRep (w : World) (b B : Nat) (size : Int) (ps : List (Int × Value)) : Prop where
  hb : w.heap[b]? = some (.cells #[.int .i64 size, .map (some B)] 36 (0, 0))
  hB : IMap w B ps
  tt : ∀ p ∈ ps, p.2 = .bool true
  lo : 0 ≤ size
  hi : size ≤ 4096
theorem RRep.ne {w : World} {b B : Nat} {size : Int} {ps : List (Int × Value)} (h : RRep w b B size ps) : b ≠ B := by
  rintro rfl
  obtain ⟨es, c, h2, _⟩ := h.hB
  have := h.hb
  rw [h2] at this
  cases this
theorem RRep.kept {w w' : World} {b B : Nat} {size : Int} {ps : List (Int × Value)} (h : RRep w b B size ps) {F : Nat → Prop} (hc : Chg F w w') (h1 : ¬ F b) (h2 : ¬ F B) : RRep w' b B size ps :=
  ⟨(hc.block b (heap_lt h.hb) h1).trans h.hb, h.hB.chg hc h2, h.tt, h.lo, h.hi⟩
theorem RRep.drew {w : World} {b B : Nat} {size : Int} {ps : List (Int × Value)} (h : RRep w b B size ps) : RRep w.drew b B size ps := ⟨h.hb, h.hB, h.tt, h.lo, h.hi⟩
theorem RRep.c0 {w : World} {b B : Nat} {size : Int} {ps : List (Int × Value)} (h : RRep w b B size ps) : w.cell? ⟨b, 0, none⟩ = some (.int .i64 size) := cell_of h.hb 0 rfl
theorem RRep.c1 {w : World} {b B : Nat} {size : Int} {ps : List (Int × Value)} (h : RRep w b B size ps) : w.cell? ⟨b, 1, none⟩ = some (.map (some B)) := cell_of h.hb 1 rfl
theorem get_tt : ∀ (ps : List (Int × Value)) (k : Int), (∀ p ∈ ps, p.2 = .bool true) → IM.get ps k (.bool false) = .bool (IM.has ps k)
  | [], _, _ => rfl
  | p :: ps, k, h => by
    rw [IM.get_cons, IM.has_cons, get_tt ps k (fun q hq => h q (List.mem_cons_of_mem _ hq))]
    by_cases e : k = p.1
    · simp [e, h p (List.mem_cons_self ..)]
    · simp [e]
theorem zero4 (w : World) : (zeroValue 4).run Try.prog w = .ok (.bool false) w := by kernel_rfl
theorem RRep.look {w : World} {b B : Nat} {size : Int} {ps : List (Int × Value)} (h : RRep w b B size ps) (k : Int) : (Instr.lookup 34 (.map (some B)) (.int .i64 k) false).run Try.prog w = .ok (.bool (IM.has ps k)) w := by
  have := h.hB.look Try.underlying34 Try.underlying3 (zero4 w) k false
  rw [if_neg (by simp), get_tt ps k h.tt] at this
  exact this

def RNewPost (s : Int) (w : World) (e : Ending) (w' : World) : Prop :=
  ∃ b B, e = .returned (.pointer (some ⟨b, 0, none⟩)) ∧ RRep w' b B s [] ∧ w.heap.size ≤ b ∧ w.heap.size ≤ B ∧ Chg (fun _ => False) w w'
theorem rnew_end (s : Int) (h0 : 0 ≤ s) (h1 : s ≤ 4096) (w : World) : RNewPost s w (.returned (.pointer (some ⟨w.heap.size + 1, 0, none⟩)))
    ((w.alloc (.map #[] 0)).alloc (.cells #[.int .i64 s, .map (some w.heap.size)] 36)) := by
  refine ⟨_, w.heap.size, rfl, ⟨?_, ?_, by simp, h0, h1⟩, by omega, by omega, ((Chg.refl _ _).alloc _).alloc _⟩
  · have := heap_alloc_at (w.alloc (.map #[] 0)) (.cells #[.int .i64 s, .map (some w.heap.size)] 36)
    simp only [World.size_alloc] at this
    exact this
  · exact (IMap.made w).chg ((Chg.refl (fun _ => False) _).alloc _) id
theorem rnew_any (i : Int) (w : World) : Calls Try.prog 13 #[.int .i64 i] w (RNewPost (clamp i) w) := by
  have hmm := @run_makeMap Try.prog
  by_cases h1 : i < 0
  · have e : clamp i = 0 := by simp [clamp, h1]
    rw [e]
    go_enter Try.func13, Try.ntmps13
    go_wp2
    go_ret
    exact rnew_end 0 (by omega) (by omega) w
  · by_cases h2 : 4096 < i
    · have e : clamp i = 4096 := by simp [clamp, h1, h2]
      rw [e]
      go_enter Try.func13, Try.ntmps13
      go_wp2
      go_ret
      exact rnew_end 4096 (by omega) (by omega) w
    · have e : clamp i = i := by simp [clamp, h1, h2]
      rw [e]
      have h3 : 0 ≤ i := by omega
      have h4 : i ≤ 4096 := by omega
      go_enter Try.func13, Try.ntmps13
      go_wp2
      go_ret
      exact rnew_end i (by omega) (by omega) w

def rsetCode (size : Int) (ps : List (Int × Value)) (i : Int) : Int := if i < 0 ∨ size ≤ i then 5 else if IM.has ps i then 6 else 0
def rsetAfter (size : Int) (ps : List (Int × Value)) (i : Int) : List (Int × Value) := if rsetCode size ps i = 0 then IM.upd i (.bool true) ps else ps
def RSetPost (w : World) (b B : Nat) (size : Int) (ps : List (Int × Value)) (i : Int) (e : Ending) (w' : World) : Prop :=
  e = .returned (.int .i64 (rsetCode size ps i)) ∧ RRep w' b B size (rsetAfter size ps i) ∧ Chg (fun k => k = B) w w'
theorem mem_upd {k : Int} {v : Value} : ∀ {ps : List (Int × Value)} {p : Int × Value}, p ∈ IM.upd k v ps → p.2 = v ∨ p ∈ ps
  | [], p, h => by simp [IM.upd] at h; exact Or.inl (by rw [h])
  | q :: ps, p, h => by
    simp only [IM.upd] at h
    split at h
    · rcases List.mem_cons.1 h with rfl | h
      · exact Or.inl rfl
      · exact Or.inr (List.mem_cons_of_mem _ h)
    · rcases List.mem_cons.1 h with rfl | h
      · exact Or.inr (List.mem_cons_self ..)
      · rcases mem_upd h with h | h
        · exact Or.inl h
        · exact Or.inr (List.mem_cons_of_mem _ h)
/-- A store of true. -/
theorem RRep.put {w w' : World} {b B : Nat} {size : Int} {ps : List (Int × Value)} (h : RRep w b B size ps) (i : Int) (h1 : IMap w' B (IM.upd i (.bool true) ps)) (hg : w.grownBy w' (some B)) : RRep w' b B size (IM.upd i (.bool true) ps) ∧ Chg (fun k => k = B) w w' := by
  have hc : Chg (fun k => k = B) w w' := (Chg.refl _ w).grown hg (fun k hk _ => by cases hk; rfl)
  refine ⟨⟨(hc.block b (heap_lt h.hb) h.ne).trans h.hb, h1, fun p hp => ?_, h.lo, h.hi⟩, hc⟩
  rcases mem_upd hp with h | h'
  · exact h
  · exact h.tt p h'
theorem rset_any (i : Int) (w : World) (b B : Nat) (size : Int) (ps : List (Int × Value)) (h : RRep w b B size ps) :
    Calls Try.prog 14 #[.pointer (some ⟨b, 0, none⟩), .int .i64 i] w (RSetPost w b B size ps i) := by
  have c0 := h.c0
  have c1 := h.c1
  have hl := h.look i
  have stay : rsetCode size ps i ≠ 0 → RSetPost w b B size ps i (.returned (.int .i64 (rsetCode size ps i))) w := fun hne => ⟨rfl, by rw [rsetAfter, if_neg hne]; exact h, Chg.refl _ _⟩
  by_cases h0 : 0 ≤ i
  · by_cases h1 : i < size
    · by_cases hb : IM.has ps i = true
      · have e : rsetCode size ps i = 6 := by simp [rsetCode, hb]; omega
        rw [e] at stay
        have fin := stay (by omega)
        rw [hb] at hl
        clear stay e hb
        go_enter Try.func14, Try.ntmps14
        go_wp2
        go_ret
        exact fin
      · rw [Bool.not_eq_true] at hb
        have e : rsetCode size ps i = 0 := by simp [rsetCode, hb]; omega
        obtain ⟨w1, hst, hm, hg⟩ := h.hB.store Try.underlying34 Try.underlying3 i (.bool true)
        have fin : RSetPost w b B size ps i (.returned (.int .i64 0)) w1 := ⟨by rw [e], by rw [rsetAfter, if_pos e]; exact (h.put i hm hg).1, (h.put i hm hg).2⟩
        rw [hb] at hl
        clear stay e hb hm hg
        go_enter Try.func14, Try.ntmps14
        go_wp2
        go_ret
        exact fin
    · have e : rsetCode size ps i = 5 := by simp [rsetCode]; omega
      rw [e] at stay
      have fin := stay (by omega)
      clear stay e hl
      go_enter Try.func14, Try.ntmps14
      go_wp2
      go_ret
      exact fin
  · have e : rsetCode size ps i = 5 := by simp [rsetCode]; omega
    rw [e] at stay
    have fin := stay (by omega)
    clear stay e hl
    go_enter Try.func14, Try.ntmps14
    go_wp2
    go_ret
    exact fin

/-! ### the document's bytes -/
def rb (size : Int) (ps : List (Int × Value)) : Nat → List Int
  | 0 => newBytes size
  | k + 1 => if IM.has ps k then setBs (rb size ps k) k else rb size ps k
theorem rb_len (size : Int) (ps : List (Int × Value)) (k : Nat) : (rb size ps k).length = ((size + 7) / 8).toNat := by
  induction k with
  | zero => simp [rb, newBytes]
  | succ k ih => simp only [rb]; split <;> simp [setBs, ih]
theorem bits_u8_byte (op : BinOp) (x y : Int) : isByte (bits op .u8 x y) := bounds_u8 (wf_bits op .u8 x y)
theorem setBs_byte {l : List Int} (h : ∀ x ∈ l, isByte x) (i : Int) : ∀ x ∈ setBs l i, isByte x := by
  intro x hx
  rcases List.mem_or_eq_of_mem_set hx with h1 | h1
  · exact h x h1
  · rw [h1]; exact bits_u8_byte _ _ _
theorem rb_byte (size : Int) (ps : List (Int × Value)) (k : Nat) : ∀ x ∈ rb size ps k, isByte x := by
  induction k with
  | zero =>
    intro x hx
    simp only [rb, newBytes, List.mem_replicate] at hx
    rw [hx.2]
    exact ⟨by omega, by omega⟩
  | succ k ih =>
    simp only [rb]
    split
    · exact setBs_byte ih _
    · exact ih
def BytesPost (l : List Int) (w : World) (e : Ending) (w' : World) : Prop :=
  ∃ g, e = .returned (.slice (some ⟨g, 0, none⟩) l.length l.length) ∧ w'.heap[g]? = some (.cells (l.map (Value.int .u8)).toArray 5 (0, 0)) ∧ w.heap.size ≤ g ∧ Chg (fun _ => False) w w'

theorem rbytes_any (w : World) (b B : Nat) (size : Int) (ps : List (Int × Value)) (h : RRep w b B size ps) : Calls Try.prog 16 #[.pointer (some ⟨b, 0, none⟩)] w (BytesPost (rb size ps size.toNat) w) := by
  have hsz : ∃ n : Nat, size = n := ⟨size.toNat, by have := h.lo; omega⟩
  obtain ⟨n, rfl⟩ := hsz
  rw [Int.toNat_natCast]
  have hn : n ≤ 4096 := by have := h.hi; omega
  have hmk := fun w' => run_make_rep 28 5 (.int .u8 0) 1 Try.underlying28 info5 rfl .i64 .i64 (((n : Int) + 7) / 8) (by omega) (by omega) (by omega) w'
  have c0 := h.c0
  have c1 := h.c1
  obtain ⟨G, hG⟩ : ∃ G, G = w.heap.size := ⟨_, rfl⟩
  obtain ⟨W0, hW0⟩ : ∃ W0, W0 = w.alloc (.cells (List.replicate (((n : Int) + 7) / 8).toNat (.int .u8 0)).toArray 5) := ⟨_, rfl⟩
  have st : W0.heap[G]? = some (.cells ((rb n ps 0).map (Value.int .u8)).toArray 5 (0, 0)) ∧ Chg (fun _ => False) w W0 := by
    rw [hG, hW0]
    refine ⟨?_, (Chg.refl _ _).alloc _⟩
    rw [heap_alloc_at]
    simp [rb, newBytes]
  have e1 : w.heap.size = G := hG.symm
  have hmk2 : (Instr.makeSlice 28 (.int .i64 (((n : Int) + 7) / 8)) (.int .i64 (((n : Int) + 7) / 8))).run Try.prog w = .ok (.slice (some ⟨G, 0, none⟩) (((n : Int) + 7) / 8).toNat (((n : Int) + 7) / 8).toNat) W0 := by
    rw [hmk, hW0, hG]
  have c0' : W0.cell? ⟨b, 0, none⟩ = some (.int .i64 n) := (h.kept st.2 id id).c0
  clear hmk
  have HW0 := Lib.hid hW0
  have HG := Lib.hid hG
  clear hW0 hG e1
  go_enter Try.func16, Try.ntmps16
  go_wp2
  go_loopw [16] (fun i wr => ∃ k : Nat, k ≤ n ∧ i = .int .i64 k ∧ wr.heap[G]? = some (.cells ((rb n ps k).map (Value.int .u8)).toArray 5 (0, 0)) ∧ Chg (fun _ => False) w wr) (fun i _ => n - (intOf i).toNat)
  case atStart => exact ⟨0, Nat.zero_le _, rfl, st.1, st.2⟩
  case round =>
    obtain ⟨k, hk, rfl, hg, hc⟩ := hrel
    have hr := h.kept hc id id
    have d0 := hr.c0
    have d1 := hr.c1
    have hl := hr.look k
    by_cases hlt : k < n
    · by_cases hb : IM.has ps k = true
      · rw [hb] at hl
        have hlen := rb_len n ps k
        have e8 : ((k : Int) / 8).toNat = k / 8 := by omega
        have m8 : ((k : Int) % 8).toNat = k % 8 := by omega
        have h3 : k / 8 < (rb n ps k).length := by omega
        have h4 : (k : Int) / 8 < ((((n : Int) + 7) / 8).toNat : Int) := by omega
        have h2 : 0 ≤ (k : Int) / 8 := by omega
        have h5 : k / 8 < (n + 7) / 8 := by omega
        have cy : wr.cell? ⟨G, k / 8, none⟩ = some (.int .u8 (rdI (rb n ps k) ((k : Int) / 8))) := by
          refine cell_of hg _ ?_
          simp [rdI, h3, e8]
        have fz : wr.frozen? ⟨G, k / 8, none⟩ = false := frozen_of hg _
        have hs : Hid ((wr.setCell ⟨G, k / 8, none⟩ (.int .u8 (bits .or .u8 (rdI (rb n ps k) ((k : Int) / 8)) (2 ^ (k % 8) % 256)))).heap[G]? = some (.cells ((rb n ps (k + 1)).map (Value.int .u8)).toArray 5 (0, 0)) ∧ Chg (fun _ => False) w (wr.setCell ⟨G, k / 8, none⟩ (.int .u8 (bits .or .u8 (rdI (rb n ps k) ((k : Int) / 8)) (2 ^ (k % 8) % 256))))) := by
          refine Lib.hid ⟨?_, hc.setCell (fun (hz : G < w.heap.size) => ?_) _⟩
          · rw [heap_setCell hg]
            simp [rb, hb, setBs, List.map_set, e8, m8]
          · have := HG.out
            omega
        clear hlen hb e8 m8 h3
        go_wp2
        go_roundw
        case rel => exact ⟨k + 1, by omega, by go_num, hs.out.1, hs.out.2⟩
        case measure => simp [intOf]; omega
      · rw [Bool.not_eq_true] at hb
        rw [hb] at hl
        have hs : Hid (wr.heap[G]? = some (.cells ((rb n ps (k + 1)).map (Value.int .u8)).toArray 5 (0, 0))) := by
          refine Lib.hid ?_
          rw [hg]
          simp [rb, hb]
        clear hb
        go_wp2
        go_roundw
        case rel => exact ⟨k + 1, by omega, by go_num, hs.out, hc⟩
        case measure => simp [intOf]; omega
    · have hkn : k = n := by omega
      subst hkn
      have hlen := rb_len k ps k
      have hs : Hid (BytesPost (rb k ps k) w (.returned (.slice (some ⟨G, 0, none⟩) ((k + 7) / 8) ((k + 7) / 8))) wr) := by
        refine Lib.hid ⟨G, ?_, hg, by have := HG.out; omega, hc⟩
        have e : (rb k ps k).length = (k + 7) / 8 := by omega
        rw [e]
      clear hlen
      go_wp2
      go_ret
      exact hs.out

/-! ### of bytes -/
def ofPs (size : Int) (l : List Int) : Nat → List (Int × Value)
  | 0 => []
  | k + 1 => if (k : Int) < size ∧ bitOf l k = true then IM.upd k (.bool true) (ofPs size l k) else ofPs size l k
theorem ofPs_tt (size : Int) (l : List Int) : ∀ (k : Nat), ∀ p ∈ ofPs size l k, p.2 = .bool true
  | 0, p, h => by simp [ofPs] at h
  | k + 1, p, h => by
    simp only [ofPs] at h
    split at h
    · rcases mem_upd h with h | h
      · exact h
      · exact ofPs_tt size l k p h
    · exact ofPs_tt size l k p h

def ofCode (size : Int) (l : List Int) : Int := if size < 0 ∨ 4096 < size then 1 else if rb size (ofPs size l (8 * l.length)) size.toNat = l then 0 else 2
def ROfPost (size : Int) (l : List Int) (w : World) (e : Ending) (w' : World) : Prop :=
  (ofCode size l ≠ 0 → e = .returned (.tuple #[.pointer none, .int .i64 (ofCode size l)])) ∧
  (ofCode size l = 0 → ∃ b B, e = .returned (.tuple #[.pointer (some ⟨b, 0, none⟩), .int .i64 0]) ∧ RRep w' b B size (ofPs size l (8 * l.length)) ∧ w.heap.size ≤ b ∧ w.heap.size ≤ B) ∧ Chg (fun _ => False) w w'

theorem rof_any (size : Int) (A : Option Addr) (c : Nat) (l : List Int) (w : World) (hl : l.length ≤ 1000) (hr : ReadsI w .u8 A l) (hb : ∀ x ∈ l, isByte x) :
    Calls Try.prog 17 #[.int .i64 size, .slice A l.length c] w (ROfPost size l w) := by
  by_cases h0 : size < 0
  · have e : ofCode size l = 1 := by simp [ofCode, h0]
    have fin : ROfPost size l w (.returned (.tuple #[.pointer none, .int .i64 1])) w := ⟨fun _ => by rw [e], fun h => by rw [e] at h; omega, Chg.refl _ _⟩
    clear hr e
    go_enter Try.func17, Try.ntmps17
    go_wp2
    go_ret2
    exact fin
  · by_cases h1 : 4096 < size
    · have e : ofCode size l = 1 := by simp [ofCode, h1]
      have fin : ROfPost size l w (.returned (.tuple #[.pointer none, .int .i64 1])) w := ⟨fun _ => by rw [e], fun h => by rw [e] at h; omega, Chg.refl _ _⟩
      clear hr e
      go_enter Try.func17, Try.ntmps17
      go_wp2
      go_ret2
      exact fin
    · have ecl : clamp size = size := by simp [clamp, h0, h1]
      have hnew := fun W => rnew_any size W
      rw [ecl] at hnew
      clear ecl
      have hs0 : 0 ≤ size := by omega
      have hs1 : size ≤ 4096 := by omega
      go_enter Try.func17, Try.ntmps17
      go_wp2_with (go_at_call 13; refine (hnew w).mono ?_; rintro e w1 ⟨b, B, rfl, hm, hbg, hBg, hc1⟩)
      have hr1 : ReadsI w1 .u8 A l := hr.chg hc1 (fun _ _ => id)
      go_loopw [19] (fun i wr => ∃ k : Nat, k ≤ 8 * l.length ∧ i = .int .i64 k ∧ RRep wr b B size (ofPs size l k) ∧ Chg (fun _ => False) w wr) (fun i _ => 8 * l.length - (intOf i).toNat)
      case atStart => exact ⟨0, Nat.zero_le _, rfl, hm, hc1⟩
      case round =>
        obtain ⟨k, hk, rfl, hg, hc⟩ := hrel
        clear hnew hm hc1 hr1
        by_cases hlt : k < 8 * l.length
        · have hne : l ≠ [] := by rintro rfl; simp at hlt
          obtain ⟨a, rfl, hcells⟩ := hr hne
          have hcell : wr.cell? (a.add (k / 8)) = some (.int .u8 (rdI l ((k : Int) / 8))) := by
            have e8 : ((k : Int) / 8).toNat = k / 8 := by omega
            have h := (hr.chg hc (fun _ _ => id)).mem (k / 8) (by omega)
            rw [h, rdI, e8]
          have h2 : 0 ≤ (k : Int) / 8 := by omega
          have h5 : k / 8 < l.length := by omega
          have d1 := hg.c1
          clear hcells hr
          by_cases hks : (k : Int) < size
          · by_cases hbit : bitOf l k = true
            · obtain ⟨w2, hst, hm2, hg2⟩ := hg.hB.store Try.underlying34 Try.underlying3 (k : Int) (.bool true)
              have hput := hg.put k hm2 hg2
              have hs : Hid (RRep w2 b B size (ofPs size l (k + 1)) ∧ Chg (fun _ => False) w w2) := by
                refine Lib.hid ⟨?_, hc.trans hput.2 (fun j hj hjB => by omega)⟩
                rw [ofPs, if_pos ⟨hks, hbit⟩]
                exact hput.1
              have hbb : (bits .and .u8 (rdI l ((k : Int) / 8) / 2 ^ (k % 8)) 1 == 1) = true := by
                have m8 : ((k : Int) % 8).toNat = k % 8 := by omega
                rw [← hbit, bitOf, m8]
              clear hput hm2 hg2 hbit
              go_wp2
              go_roundw
              case rel => exact ⟨k + 1, by omega, by go_num, hs.out.1, hs.out.2⟩
              case measure => simp [intOf]; omega
            · rw [Bool.not_eq_true] at hbit
              have hs : Hid (RRep wr b B size (ofPs size l (k + 1))) := by
                refine Lib.hid ?_
                rw [ofPs, if_neg (by simp [hbit])]
                exact hg
              have hbb : (bits .and .u8 (rdI l ((k : Int) / 8) / 2 ^ (k % 8)) 1 == 1) = false := by
                have m8 : ((k : Int) % 8).toNat = k % 8 := by omega
                rw [← hbit, bitOf, m8]
              clear hbit
              go_wp2
              go_roundw
              case rel => exact ⟨k + 1, by omega, by go_num, hs.out, hc⟩
              case measure => simp [intOf]; omega
          · have hs : Hid (RRep wr b B size (ofPs size l (k + 1))) := by
              refine Lib.hid ?_
              rw [ofPs, if_neg (fun h => hks h.1)]
              exact hg
            go_wp2
            go_roundw
            case rel => exact ⟨k + 1, by omega, by go_num, hs.out, hc⟩
            case measure => simp [intOf]; omega
        · have hkn : k = 8 * l.length := by omega
          subst hkn
          have cv0 := run_str (P := Try.prog) Try.underlying28 Try.underlying5 Try.underlying9 c (hr.chg hc.drew (fun _ _ => id))
          go_wp2
          go_region_with (go_at_call 16; refine (rbytes_any _ b B size _ hg.drew).mono ?_; rintro e w2 ⟨g, rfl, hgg, hge, hcg⟩; have cv1 := run_str (P := Try.prog) Try.underlying28 Try.underlying5 Try.underlying9 c ((hr.chg hc.drew (fun _ _ => id)).chg hcg (fun _ _ => id)); have cv2 := run_str (P := Try.prog) Try.underlying28 Try.underlying5 Try.underlying9 (rb size (ofPs size l (8 * l.length)) size.toNat).length (ReadsI.of_block hgg))
          all_goals
            have hc2 : Chg (fun _ => False) w w2 := hc.drew.trans hcg (fun _ _ => id)
            have hg2 : RRep w2 b B size (ofPs size l (8 * l.length)) := hg.drew.kept hcg id id
            clear cv0 cv1 cv2 hgg hcg
            generalize hq : ((strOf (rb size (ofPs size l (8 * l.length)) size.toNat)).toList == (strOf l).toList) = q
            cases q with
            | true =>
              have ec : ofCode size l = 0 := by
                have h := (strOf_inj (rb_byte _ _ _) hb).1 (beq_iff_eq.1 hq)
                simp [ofCode, h]
                omega
              have fin : ROfPost size l w (.returned (.tuple #[.pointer (some ⟨b, 0, none⟩), .int .i64 0])) w2 := ⟨fun h => absurd ec h, fun _ => ⟨b, B, rfl, hg2, hbg, hBg⟩, hc2⟩
              clear hq ec
              go_wp2
              go_ret2
              exact fin
            | false =>
              have ec : ofCode size l = 2 := by
                have h : ¬ rb size (ofPs size l (8 * l.length)) size.toNat = l := fun h => beq_eq_false_iff_ne.1 hq ((strOf_inj (rb_byte _ _ _) hb).2 h)
                simp [ofCode, h]
                omega
              have fin : ROfPost size l w (.returned (.tuple #[.pointer none, .int .i64 2])) w2 := ⟨fun _ => by rw [ec], fun h => by rw [ec] at h; omega, hc2⟩
              clear hq ec
              go_wp2
              go_ret2
              exact fin
end Go.Proofs.Ytaifgalpeaaliaa
