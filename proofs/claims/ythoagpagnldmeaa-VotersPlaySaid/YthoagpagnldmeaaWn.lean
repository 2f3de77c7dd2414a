/- The document's voters: find, put, cut. -/
import Derived.Test.YthoagpagnldmeaaWd
import Derived.Deep.Cut
set_option linter.unusedVariables false
set_option linter.unusedSimpArgs false
namespace Go.Proofs.Ythoagpagnldmeaa.V
open Go.RowKit Go.Ps
/-- What a slice expression's value is, at elements of sz cells. -/
def cutF (sz : Nat) (A : Option Addr) (i c : Nat) : Option Addr := if c = i then A else A.map (·.add (i * sz))
section
variable {P : Program} {α : Type} {f : α → List Value} {sz : Nat} {w : World} {l : List α}
theorem flat_drop (hf : Lay f sz) : ∀ (l : List α) (i : Nat), (l.drop i).flatMap f = (l.flatMap f).drop (i * sz)
  | [], i => by simp
  | x :: l, 0 => by simp
  | x :: l, i + 1 => by
    rw [List.drop_succ_cons, flat_drop hf l i, List.flatMap_cons, Nat.succ_mul]
    have hl : (f x).length = sz := hf.len x
    rw [show i * sz + sz = (f x).length + i * sz by omega, List.drop_append]
    simp
theorem flat_take (hf : Lay f sz) : ∀ (l : List α) (i : Nat), (l.take i).flatMap f = (l.flatMap f).take (i * sz)
  | [], i => by simp
  | x :: l, 0 => by simp
  | x :: l, i + 1 => by
    rw [List.take_succ_cons, List.flatMap_cons, List.flatMap_cons, flat_take hf l i, Nat.succ_mul]
    have hl : (f x).length = sz := hf.len x
    rw [show i * sz + sz = (f x).length + i * sz by omega, List.take_append]
    have e1 : List.take ((f x).length + i * sz) (f x) = f x := List.take_of_length_le (by omega)
    rw [e1]
    simp
theorem ReadsF.sub (hf : Lay f sz) {A : Option Addr} {c : Nat} (h : ReadsF w f A l) (i j : Nat) (hj : j ≤ l.length) (hc : l.length ≤ c) : ReadsF w f (cutF sz A i c) ((l.take j).drop i) := by
  intro hne
  have hij : i < j := by
    rcases Nat.lt_or_ge i j with h1 | h1
    · exact h1
    · exfalso; apply hne; apply List.drop_eq_nil_of_le; rw [List.length_take]; omega
  obtain ⟨a, rfl, hx⟩ := h (by rintro rfl; simp at hj; omega)
  refine ⟨a.add (i * sz), by unfold cutF; rw [if_neg (by omega)]; rfl, fun k u hu => ?_⟩
  rw [Go.Deep.add_add]
  refine hx _ u ?_
  rw [flat_drop hf, flat_take hf, List.getElem?_drop, List.getElem?_take] at hu
  split at hu
  · exact hu
  · cases hu
theorem cutF_block {sz : Nat} {A : Option Addr} {i c : Nat} {a : Addr} (h : cutF sz A i c = some a) : ∃ b, A = some b ∧ a.block = b.block := by
  unfold cutF at h
  split at h
  · exact ⟨a, h, rfl⟩
  · obtain ⟨b, hb, rfl⟩ := Option.map_eq_some_iff.1 h
    exact ⟨b, hb, block_add b _⟩
variable {t e : TypeId}
theorem run_cutFL (ht : P.underlying t = some (.slice e)) (hs : (P.info? e).map (·.size) = some sz) (A : Option Addr) (n c : Nat) {ki : IntKind} (i : Nat) (hij : i ≤ n) (hj : n ≤ c) (W : World) :
    (Instr.sliceAt t (.slice A n c) (some (.int ki i)) none none).run P W = .ok (.slice (cutF sz A i c) (n - i) (c - i)) W := by
  obtain ⟨x, hx, hx2⟩ := Option.map_eq_some_iff.1 hs
  have hel : P.elem t = e := by simp [Program.elem, ht]
  have ht2 : P.underlying t = some (.slice (P.elem t)) := by rw [hel]; exact ht
  rw [run_sliceAt_slice W t _ _ _ _ ht2, run_slice_l W t A n c ht2 ki i (by omega) (by omega), hel]
  simp [sizeOf, typeInfo, hx, hx2, Result.andThen, sliced, cutF]
theorem run_cutFH (ht : P.underlying t = some (.slice e)) (hs : (P.info? e).map (·.size) = some sz) (A : Option Addr) (n c : Nat) {kj : IntKind} (j : Nat) (hj : j ≤ c) (W : World) :
    (Instr.sliceAt t (.slice A n c) none (some (.int kj j)) none).run P W = .ok (.slice (cutF sz A 0 c) j c) W := by
  obtain ⟨x, hx, hx2⟩ := Option.map_eq_some_iff.1 hs
  have hel : P.elem t = e := by simp [Program.elem, ht]
  have ht2 : P.underlying t = some (.slice (P.elem t)) := by rw [hel]; exact ht
  rw [run_sliceAt_slice W t _ _ _ _ ht2, run_slice_h W t A n c ht2 kj j (by omega) (by omega), hel]
  simp [sizeOf, typeInfo, hx, hx2, Result.andThen, sliced, cutF]
end
theorem drop_cons {α : Type} (L : List α) (d : α) (k : Nat) (h : k < L.length) : L.drop k = L.getD k d :: L.drop (k + 1) := by
  rw [List.drop_eq_getElem_cons h]
  congr 1
  rw [List.getD_eq_getElem?_getD, List.getElem?_eq_getElem h]
  rfl
theorem read2 {w : World} {g : Nat} {c0 c1 : Value} {t : TypeId} (h : w.heap[g]? = some (.cells #[c0, c1] t (0, 0))) : w.cell? ⟨g, 0, none⟩ = some c0 ∧ w.cell? ⟨g, 1, none⟩ = some c1 := ⟨cell_of h 0 rfl, cell_of h 1 rfl⟩
/-- A voter of the document's: its number, stake, bag. -/
abbrev DV := Int × Int × Int
def d0 : DV := (0, 0, 0)
def fd (x : DV) : List Value := [.int .i64 x.1, .int .u64 x.2.1, .int .i64 x.2.2]
theorem layD : Lay fd 3 := ⟨fun x => rfl, fun x u hu => by simp [fd] at hu; rcases hu with rfl | rfl | rfl <;> rfl, by omega⟩
theorem size85 : (Try.prog.info? 85).map (·.size) = some 3 := by kernel_rfl
theorem zsize3 : (Value.agg #[.int .i64 0, .int .u64 0, .int .i64 0]).cells.size = 3 := rfl
def mV (m : DV) : Value := .agg #[.int .i64 m.1, .int .u64 m.2.1, .int .i64 m.2.2]
/-- The document's voters in memory. -/
structure RV (W : World) (c : Nat) (tT v : Value) (L : List DV) : Prop where
  cell : W.heap[c]? = some (.cells #[tT, v] 77 (0, 0))
  own : OwnF W 85 3 fd v L
  vc : v.ownBlock ≠ some c
theorem RV.chg {W W' : World} {c : Nat} {tT v : Value} {L : List DV} (h : RV W c tT v L) {F : Nat → Prop} (hc : Chg F W W') (h1 : ¬ F c) (h2 : ∀ k, v.ownBlock = some k → ¬ F k) : RV W' c tT v L :=
  ⟨(hc.block c (heap_lt h.cell) h1).trans h.cell, h.own.chg hc h2, h.vc⟩
theorem RV.put {W W2 : World} {c : Nat} {tT v v' : Value} {L L' : List DV} (h : RV W c tT v L) (hC : Chg (fun _ => False) W W2) (ho : OwnF W2 85 3 fd v' L') (hn : ∀ k, v'.ownBlock = some k → W.heap.size ≤ k) :
    RV (W2.setCell ⟨c, 1, none⟩ v') c tT v' L' ∧ Chg (fun k => k = c) W (W2.setCell ⟨c, 1, none⟩ v') := by
  have hcl := heap_lt h.cell
  have h2 : W2.heap[c]? = some (.cells #[tT, v] 77 (0, 0)) := (hC.block c hcl id).trans h.cell
  have hne : ∀ k, v'.ownBlock = some k → k ≠ c := fun k hk e => by have := hn k hk; omega
  refine ⟨⟨by rw [heap_setCell h2]; rfl, ho.chg (chg1 (F := fun k => k = c) (Chg.refl _ W2) rfl _) hne, fun e => hne c e rfl⟩, (hC.mono (G := fun k => k = c) (fun _ _ h => h.elim)).setCell (fun _ => rfl) _⟩
def fndD : List DV → Int → Int → Int
  | [], _, _ => -1
  | p :: L, h, i => if p.1 = h then i else fndD L h (i + 1)
set_option maxRecDepth 20000 in
set_option maxHeartbeats 1000000 in
theorem rvfind {w : World} {c : Nat} {tT v : Value} {L : List DV} (hd : Int) (h : RV w c tT v L) (hl : L.length ≤ 1000000) :
    Calls Try.prog 50 #[.pointer (some ⟨c, 0, none⟩), .int .i64 hd] w fun e w' => e = .returned (.int .i64 (fndD L hd 0)) ∧ w' = w := by
  obtain ⟨x0', x0⟩ := read2 h.cell
  clear x0'
  obtain ⟨A, cp, rfl, hcp, hr, _, _⟩ := h.own.form
  obtain ⟨m, hm⟩ : ∃ m, m = L.length := ⟨_, rfl⟩
  rw [← hm] at x0
  obtain ⟨T, hT⟩ : ∃ T, T = fndD L hd 0 := ⟨_, rfl⟩
  rw [← hT]
  have HH := Lib.hid (⟨h, hl, hr, hm, hT⟩ : _ ∧ _ ∧ _ ∧ _ ∧ _)
  clear h hl hcp hr hm hT
  go_enter Try.func50, Try.ntmps50
  go_wp2
  go_loop [11] (fun i => ∃ k : Nat, i = .int .i64 k ∧ k ≤ L.length ∧ T = fndD (L.drop k) hd k) (fun i => L.length - (intOf i).toNat)
  case atStart => exact ⟨0, rfl, by omega, HH.out.2.2.2.2⟩
  case round =>
    obtain ⟨k, rfl, hk, hT⟩ := hrel
    obtain ⟨h, hl, hr, hm, hT0⟩ := HH.out
    clear hT0
    by_cases hkl : k < L.length
    · obtain ⟨a, rfl, hx⟩ := hr (by rintro rfl; simp at hkl)
      obtain ⟨g, o, c1, hg, hv⟩ : ∃ g o c1, a = ⟨g, o, none⟩ ∧ o = 0 ∧ c1 = 0 := by
        rcases h.own.2 with ⟨hv, _⟩ | ⟨g, cap, cur, hv, _⟩
        · cases hv
        · cases hv; exact ⟨g, 0, 0, rfl, rfl, rfl⟩
      obtain ⟨rfl, rfl⟩ := hv
      subst hg
      obtain ⟨x, hxe⟩ : ∃ x, x = L.getD k d0 := ⟨_, rfl⟩
      have hc0 : w.cell? ⟨g, k * 3, none⟩ = some (.int .i64 x.1) := by
        have := hx (k * 3 + 0) (.int .i64 x.1) (by rw [layD.get d0 L k 0 hkl (by omega), ← hxe]; rfl)
        rw [add_zero] at this
        exact this
      rw [drop_cons L d0 k hkl, ← hxe, fndD] at hT
      have hkm : (k : Int) < m := by omega
      by_cases he : x.1 = hd
      · rw [if_pos he] at hT
        subst hT
        clear hx hxe hk hkl h hl hr hm HH
        go_wp2
        go_ret
        exact ⟨rfl, rfl⟩
      · rw [if_neg he] at hT
        have HW := Lib.hid (show wrap64 ((k : Int) + 1) = ((k + 1 : Nat) : Int) by unfold wrap64; omega)
        have HT := Lib.hid (show T = fndD (L.drop (k + 1)) hd ((k + 1 : Nat) : Int) from hT)
        have HK := Lib.hid hkl
        clear hx hxe hk hkl h hl hr hm HH hT
        go_wp2
        go_round
        case rel => exact ⟨k + 1, by rw [HW.out], HK.out, HT.out⟩
        case measure =>
          have h1 := HK.out
          rw [HW.out]
          simp only [intOf, Int.toNat_natCast]
          omega
    · have hkm : ¬ (k : Int) < m := by omega
      rw [List.drop_eq_nil_of_le (by omega), fndD] at hT
      subst hT
      clear h hl hr hm hk hkl HH
      go_wp2
      go_ret
      exact ⟨rfl, rfl⟩
def PutPost (c : Nat) (tT : Value) (L' : List DV) (w : World) (r : Value) (e : Ending) (w' : World) : Prop :=
  ∃ v', e = .returned r ∧ RV w' c tT v' L' ∧ Chg (fun k => k = c) w w' ∧ (∀ k, v'.ownBlock = some k → w.heap.size ≤ k)
set_option maxRecDepth 20000 in
set_option maxHeartbeats 2000000 in
theorem rvput {w : World} {c : Nat} {tT v : Value} {L : List DV} (i : Nat) (m : DV) (h : RV w c tT v L) (hi : i ≤ L.length) (hl : L.length ≤ 100000) :
    Calls Try.prog 84 #[.pointer (some ⟨c, 0, none⟩), .int .i64 i, mV m] w (PutPost c tT (L.take i ++ m :: L.drop i) w (.tuple #[])) := by
  obtain ⟨A, cp, rfl, hcp, _, _, _⟩ := h.own.form
  obtain ⟨r, hr⟩ : ∃ r, r = w.heap.size := ⟨_, rfl⟩
  obtain ⟨V, hV⟩ : ∃ V, V = w.alloc (.cells #[.int .i64 m.1, .int .u64 m.2.1, .int .i64 m.2.2] 85) := ⟨_, rfl⟩
  have hVC : Chg (fun _ => False) w V := by rw [hV]; exact (Chg.refl _ w).alloc _
  have hRV := h.chg hVC id (fun _ _ => id)
  have hrV : V.heap[r]? = some (.cells #[.int .i64 m.1, .int .u64 m.2.1, .int .i64 m.2.2] 85 (0, 0)) := by rw [hV, hr]; exact heap_alloc_at _ _
  have hreads : ∀ W, Chg (fun _ => False) V W → ReadsF W fd A L := fun W hC => by
    obtain ⟨A2, c2, hv2, _, hr2, _⟩ := (hRV.chg hC id (fun _ _ => id)).own.form
    cases hv2
    exact hr2
  have hti : (L.take i).length = i := by rw [List.length_take]; omega
  have hdi : (L.drop i).length = L.length - i := List.length_drop
  -- first append
  obtain ⟨A1, c1, w1, hap1, ho1, hg1, hat1⟩ := (OwnF.nil V 85 3 fd).appendF (P := Try.prog) layD 70 Try.underlying70 info85 zsize3 cp (by have := ReadsF.sub layD (c := cp) (hreads V (Chg.refl _ _)) 0 i hi hcp; rwa [List.drop_zero] at this) (by rw [hti]; simp; omega) (by omega)
  rw [hti] at hap1 hat1 ho1
  simp only [List.length_nil, Nat.zero_add, List.nil_append] at hap1 hat1 ho1
  have hC1 : Chg (fun _ => False) V w1 := (Chg.refl _ V).grown hg1 (fun k hk _ => by cases hk)
  have hf1 : ∀ k, Value.ownBlock (.slice A1 i c1) = some k → V.heap.size ≤ k := fun k hk => by
    rcases hat1 with e | e
    · rw [e] at hk; cases hk
    · rw [e] at hk; cases hk; exact Nat.le_refl _
  -- second append
  obtain ⟨A2, c2, w2, hap2, ho2, hg2, hat2⟩ := ho1.append1 (P := Try.prog) layD 70 Try.underlying70 info85 zsize3 m (by rw [hti]; omega) (by omega)
  rw [hti] at hap2 ho2 hat2
  have hC2 : Chg (fun _ => False) V w2 := hC1.grown hg2 (fun k hk hlt => by have := hf1 k hk; omega)
  have hf2 : ∀ k, Value.ownBlock (.slice A2 (i + 1) c2) = some k → V.heap.size ≤ k := fun k hk => by
    rcases hat2 k hk with e | e
    · exact hf1 k e
    · exact Nat.le_trans hC1.size e
  -- third append
  obtain ⟨A3, c3, w3, hap3, ho3, hg3, hat3⟩ := ho2.appendF (P := Try.prog) layD 70 Try.underlying70 info85 zsize3 (cp - i) (by have := ReadsF.sub layD (c := cp) (hreads w2 hC2) i L.length (Nat.le_refl _) hcp; rwa [List.take_length] at this) (by rw [hdi, List.length_append, hti]; simp; omega) (by omega)
  rw [hdi, List.length_append, hti, List.length_singleton] at hap3 hat3
  rw [hdi, List.length_append, hti, List.length_singleton] at ho3
  have hC3 : Chg (fun _ => False) V w3 := hC2.grown hg3 (fun k hk hlt => by have := hf2 k hk; omega)
  have hf3 : ∀ k, Value.ownBlock (.slice A3 (i + 1 + (L.length - i)) c3) = some k → V.heap.size ≤ k := fun k hk => by
    rcases hat3 with e | e
    · rw [e] at hk; exact hf2 k hk
    · rw [e] at hk; cases hk; exact hC2.size
  rw [List.append_assoc, List.singleton_append] at ho3
  obtain ⟨hR, hC4⟩ := hRV.put hC3 ho3 hf3
  have fin : PutPost c tT (L.take i ++ m :: L.drop i) w (.tuple #[]) (.returned (.tuple #[])) (w3.setCell ⟨c, 1, none⟩ (.slice A3 (i + 1 + (L.length - i)) c3)) :=
    ⟨_, rfl, hR, (hVC.mono (G := fun k => k = c) (fun _ _ h => h.elim)).trans hC4 (fun _ _ h => h), fun k hk => Nat.le_trans hVC.size (hf3 k hk)⟩
  have b0 := hRV.cell
  have b1 := chg_heap0 hC1 hrV
  have b2 := chg_heap0 hC2 hRV.cell
  have b3 := chg_heap0 hC3 hRV.cell
  obtain ⟨x1, x0⟩ := read2 b0
  obtain ⟨y0, y1, y2⟩ := read3 b1
  obtain ⟨z1, z0⟩ := read2 b2
  obtain ⟨u1, u0⟩ := read2 b3
  have f3 := frz b3
  obtain ⟨n, hn⟩ : ∃ n, n = L.length := ⟨_, rfl⟩
  have hsH := run_cutFH Try.underlying70 size85 A n cp (kj := .i64) i (by omega)
  have hsL := run_cutFL Try.underlying70 size85 A n cp (ki := .i64) i (by omega) (by omega)
  rw [← hn] at x0 z0 u0 hap3 fin
  have FIN := Lib.hid fin
  have HV := Lib.hid hV
  have HR := Lib.hid hr
  clear h hi hl hcp hV hr hVC hRV hrV hreads hti hdi ho1 hg1 hat1 hC1 hf1 ho2 hg2 hat2 hC2 hf2 ho3 hg3 hat3 hC3 hf3 hR hC4 fin b0 b1 b2 b3 hn
  simp only [fd] at hap2
  unfold mV
  go_enter Try.func84, Try.ntmps84
  go_upto_region 1 with (fail)
  rw [← HV.out, ← HR.out]
  go_wp2_with (first | (with_reducible refine wpList_slice_run rfl 70 _ none _ rfl _ _ none _ rfl rfl rfl (hsH _) ?_) | (with_reducible refine wpList_slice_run rfl 70 _ _ none rfl _ _ _ none rfl rfl rfl (hsL _) ?_) | (at_builtin; refine wpList_append_run rfl _ _ 70 rfl _ _ _ _ rfl rfl hap1 ?_) | (at_builtin; refine wpList_append_run rfl _ _ 70 rfl _ _ _ _ rfl rfl hap2 ?_) | (at_builtin; refine wpList_append_run rfl _ _ 70 rfl _ _ _ _ rfl rfl hap3 ?_))
  go_end0
  exact FIN.out
end Go.Proofs.Ythoagpagnldmeaa.V
