/- Chunks struck off a row (slices.IndexFunc, slices.DeleteFunc with the two closures). -/
import Derived.Test.YtpndkelbchjkiaaLk
set_option linter.unusedVariables false
set_option linter.unusedSimpArgs false
namespace Go.Proofs.Ytpndkelbchjkiaa
open Go.RowKit Go.Ps
def d0 : Int × Int := (0, 0)
def aggC (x : Int × Int) : Value := .agg #[.int .u64 x.1, .int .i64 x.2]
theorem ownF_cells {w : World} {v : Value} {l : List (Int × Int)} (h : OwnF w 38 2 fch v l) {k : Nat} (hk : k < l.length) : ∃ b c, v = .slice (some ⟨b, 0, none⟩) l.length c ∧ v.ownBlock = some b ∧ l.length ≤ c ∧ w.cell? ⟨b, k * 2, none⟩ = some (.int .u64 (l.getD k d0).1) ∧ w.cell? ⟨b, k * 2 + 1, none⟩ = some (.int .i64 (l.getD k d0).2) ∧ w.frozen? ⟨b, k * 2, none⟩ = false ∧ w.frozen? ⟨b, k * 2 + 1, none⟩ = false := by
  obtain ⟨b, c, cur, e1, e2, e3, e4, _, e6⟩ := h.at_ layC d0 (by omega)
  exact ⟨b, c, e1, e2, e4, cell_of e3 _ (e6 k 0 hk (by omega)), cell_of e3 _ (e6 k 1 hk (by omega)), frozen_of e3 _, frozen_of e3 _⟩
/-- What a predicate's closure does, called for one element behind the other. -/
def Cls (fv : Nat) (lb : List Value) (l : List (Int × Int)) (p : Int × Int → Bool) (R : Nat → World → Prop) (G : Nat → Prop) : Prop :=
  ∀ k W, k < l.length → R k W → Calls Try.prog fv (#[aggC (l.getD k d0)] ++ lb.toArray) W fun e W' => e = .returned (.bool (p (l.getD k d0))) ∧ R (k + 1) W' ∧ Chg G W W'
def IdxPost (l : List (Int × Int)) (p : Int × Int → Bool) (R : Nat → World → Prop) (G : Nat → Prop) (w : World) (e : Ending) (w' : World) : Prop :=
  Chg G w w' ∧ ((e = .returned (.int .i64 (-1)) ∧ (∀ j, j < l.length → p (l.getD j d0) = false) ∧ R l.length w') ∨ ∃ k, k < l.length ∧ e = .returned (.int .i64 k) ∧ (∀ j, j < k → p (l.getD j d0) = false) ∧ p (l.getD k d0) = true ∧ R (k + 1) w')

theorem setC {w : World} {v : Value} {m : List (Int × Int)} (h : OwnF w 38 2 fch v m) {b i : Nat} (hb : v.ownBlock = some b) (hi : i < m.length) (x : Int × Int) :
    OwnF ((w.setCell ⟨b, i * 2, none⟩ (.int .u64 x.1)).setCell ⟨b, i * 2 + 1, none⟩ (.int .i64 x.2)) 38 2 fch v (m.set i x) := by
  have h1 := OwnF.set layC h hb hi (j := 0) (by omega) (d := d0) (x.1, (m.getD i d0).2) (.int .u64 x.1) rfl
  have h2 := OwnF.set layC h1 hb (by simpa using hi) (j := 1) (by omega) (d := d0) x (.int .i64 x.2) (by
    rw [List.getD_eq_getElem?_getD, List.getElem?_set_self hi]
    rfl)
  rw [List.set_set] at h2
  exact h2
theorem ownF_cut {w w' : World} {b c i n : Nat} {m : List (Int × Int)} {cur cur' : Array Value} (h : OwnF w 38 2 fch (.slice (some ⟨b, 0, none⟩) n c) m) (hi : i ≤ m.length) (hg : w.heap[b]? = some (.cells cur 38 (0, 0))) (hg' : w'.heap[b]? = some (.cells cur' 38 (0, 0))) (hs : cur'.size = cur.size) (ht : cur'.toList.take (i * 2) = cur.toList.take (i * 2)) :
    OwnF w' 38 2 fch (.slice (some ⟨b, 0, none⟩) i c) (m.take i) := by
  rcases h.2 with ⟨e, _⟩ | ⟨g, cap, cur2, e, hbg, hg2, hnc, hcm, hcs, htake⟩
  · cases e
  · simp only [Value.slice.injEq, Option.some.injEq, Addr.mk.injEq, and_true] at e
    obtain ⟨rfl, rfl, rfl⟩ := e
    rw [hg] at hg2
    simp only [Option.some.injEq, Obj.cells.injEq, and_true] at hg2
    obtain rfl := hg2
    have hl : (m.take i).length = i := by rw [List.length_take]; omega
    refine ⟨by rw [layC.length], .inr ⟨b, c, cur', by rw [hl], Nat.zero_le _, hg', by omega, hcm, by omega, ?_⟩⟩
    rw [hl, ht]
    have h1 : cur.toList.take (i * 2) = (cur.toList.take (m.length * 2)).take (i * 2) := by rw [List.take_take, Nat.min_eq_left (by omega)]
    rw [h1, htake]
    have h2 : m.flatMap fch = (m.take i).flatMap fch ++ (m.drop i).flatMap fch := by rw [← List.flatMap_append, List.take_append_drop]
    have h3 : ((m.take i).flatMap fch).length = i * 2 := by rw [layC.length, hl]
    rw [h2, List.take_append_of_le_length (by omega), List.take_of_length_le (by omega)]
theorem heap_setRow {w : World} {b : Nat} {cur cur' : Array Value} {t : TypeId} {fr : Nat × Nat} (h : w.heap[b]? = some (.cells cur t fr)) : (w.setRow b cur').heap[b]? = some (.cells cur' t fr) := by
  simp [World.setRow, Array.getElem?_modify, h]
theorem chg_setRow (w : World) (b : Nat) (cur : Array Value) : Chg (fun k => k = b) w (w.setRow b cur) := by
  refine ⟨rfl, rfl, rfl, by simp [World.setRow], fun k hk hne => ?_⟩
  simp only [World.setRow, Array.getElem?_modify]
  rw [if_neg (fun e => hne e.symm)]
def DelPost (l : List (Int × Int)) (p : Int × Int → Bool) (R : Nat → World → Prop) (G : Nat → Prop) (v : Value) (w : World) (e : Ending) (w' : World) : Prop :=
  ∃ v', e = .returned v' ∧ OwnF w' 38 2 fch v' (l.filter fun x => !p x) ∧ R l.length w' ∧ Chg (fun k => v.ownBlock = some k ∨ G k) w w' ∧ v'.ownBlock = v.ownBlock
/-- What the loop keeps: i kept, j seen. -/
def DelI (l : List (Int × Int)) (p : Int × Int → Bool) (R : Nat → World → Prop) (G : Nat → Prop) (v : Value) (w : World) (i j : Nat) (wr : World) : Prop :=
  ∃ m, OwnF wr 38 2 fch v m ∧ m.length = l.length ∧ m.take i = (l.take j).filter (fun x => !p x) ∧ m.drop j = l.drop j ∧ R j wr ∧ Chg (fun k => v.ownBlock = some k ∨ G k) w wr
theorem take_snocC (l : List (Int × Int)) (k : Nat) (h : k < l.length) : l.take (k + 1) = l.take k ++ [l.getD k d0] := by
  rw [List.getD_eq_getElem?_getD, List.getElem?_eq_getElem h]
  exact (List.take_append_getElem h).symm
theorem drop_eqC {l m : List (Int × Int)} {j : Nat} (h : m.drop j = l.drop j) (k : Nat) (hk : j ≤ k) : m.getD k d0 = l.getD k d0 := by
  have h1 : m[k]? = l[k]? := by
    have := congrArg (fun t => t[k - j]?) h
    simpa [List.getElem?_drop, Nat.add_sub_of_le hk] using this
  simp only [List.getD_eq_getElem?_getD, h1]
theorem filter_none {l : List (Int × Int)} {p : Int × Int → Bool} {k : Nat} (hk : k ≤ l.length) (h : ∀ j, j < k → p (l.getD j d0) = false) : (l.take k).filter (fun x => !p x) = l.take k := by
  rw [List.filter_eq_self]
  intro x hx
  obtain ⟨i, hi, rfl⟩ := List.getElem_of_mem hx
  rw [List.length_take] at hi
  rw [List.getElem_take]
  have := h i (by omega)
  rw [List.getD_eq_getElem?_getD, List.getElem?_eq_getElem (by omega)] at this
  simp at this
  simp [this]
theorem del_keep {l m : List (Int × Int)} {p : Int × Int → Bool} {i j : Nat} (hj : j < l.length) (hm : m.length = l.length) (hij : i < j) (ht : m.take i = (l.take j).filter fun x => !p x) (hd : m.drop j = l.drop j) (hp : p (l.getD j d0) = false) :
    (m.set i (l.getD j d0)).take (i + 1) = (l.take (j + 1)).filter (fun x => !p x) ∧ (m.set i (l.getD j d0)).drop (j + 1) = l.drop (j + 1) := by
  constructor
  · rw [take_snocC l j hj, List.filter_append, ← ht, take_snocC _ i (by simp; omega)]
    congr 1
    · rw [List.take_set_of_le (Nat.le_refl _)]
    · have : (m.set i (l.getD j d0)).getD i d0 = l.getD j d0 := by rw [List.getD_eq_getElem?_getD, List.getElem?_set_self (by omega)]; rfl
      rw [this]
      generalize l.getD j d0 = x at hp
      simp [hp]
  · rw [List.drop_set_of_lt (by omega)]
    have := congrArg (List.drop 1) hd
    simpa [List.drop_drop, Nat.add_comm] using this
theorem del_skip {l m : List (Int × Int)} {p : Int × Int → Bool} {i j : Nat} (hj : j < l.length) (ht : m.take i = (l.take j).filter fun x => !p x) (hd : m.drop j = l.drop j) (hp : p (l.getD j d0) = true) :
    m.take i = (l.take (j + 1)).filter (fun x => !p x) ∧ m.drop (j + 1) = l.drop (j + 1) := by
  constructor
  · rw [take_snocC l j hj, List.filter_append, ← ht]
    generalize l.getD j d0 = x at hp
    simp [hp]
  · have := congrArg (List.drop 1) hd
    simpa [List.drop_drop, Nat.add_comm] using this
set_option maxRecDepth 20000 in
set_option maxHeartbeats 2000000 in
theorem index62_38 (pe pn : Addr) {w : World} {v : Value} {l : List (Int × Int)} {p : Int × Int → Bool} {R : Nat → World → Prop} {G : Nat → Prop} (hcl : Cls 38 [.pointer (some pe), .pointer (some pn)] l p R G) (hO : OwnF w 38 2 fch v l) (hG : ∀ k, v.ownBlock = some k → ¬ G k) (h0 : R 0 w) (hl : l.length ≤ 1000) :
    Calls Try.prog 62 #[v, .func (.func 38) #[] #[.pointer (some pe), .pointer (some pn)]] w (IdxPost l p R G w) := by
  obtain ⟨A, c, rfl, hcap, _⟩ := hO.form
  obtain ⟨n, hn⟩ : ∃ n, n = l.length := ⟨_, rfl⟩
  have HN := Lib.hid hn
  have HO := Lib.hid hO
  have HG := Lib.hid hG
  have HCL := Lib.hid hcl
  have H0 := Lib.hid h0
  rw [← hn] at hl ⊢
  clear hn hO hG hcl h0 hcap
  go_enter Try.func62, Try.ntmps62
  go_wp2
  go_loopw [5, 8] (fun a i wr => ∃ (k : Nat), k ≤ n ∧ i = .int .i64 k ∧ Hid ((∀ j, j < k → p (l.getD j d0) = false) ∧ R k wr ∧ Chg G w wr)) (fun _ i _ => n - (intOf i).toNat)
  case atStart => exact ⟨0, by omega, rfl, Lib.hid ⟨fun j hj => by omega, H0.out, Chg.refl _ _⟩⟩
  case round =>
    obtain ⟨k, hk, rfl, HK⟩ := hrel
    by_cases hk2 : k < n
    · have hkl : k < l.length := by have := HN.out; omega
      obtain ⟨b, c2, e1, e2, e3, c0, c1, _, _⟩ := ownF_cells (HO.out.chg HK.out.2.2 HG.out) hkl
      simp only [Value.slice.injEq] at e1
      obtain ⟨rfl, -, rfl⟩ := e1
      have hc := HCL.out k _ hkl HK.out.2.1
      simp only [aggC, List.append_toArray, List.cons_append, List.nil_append] at hc
      obtain ⟨x, hx⟩ : ∃ x, x = l.getD k d0 := ⟨_, rfl⟩
      rw [← hx] at hc c0 c1
      have HX := Lib.hid hx
      clear hx e2 e3 hkl
      cases hp : p x with
      | true =>
        rw [hp] at hc
        have HP := Lib.hid hp
        clear hp
        go_wp2_with fail
        refine hc.mono ?_
        rintro e W2 ⟨rfl, hR, hC⟩
        have HF := Lib.hid (⟨hR, hC⟩ : _ ∧ _)
        clear hR hC hc c0 c1
        go_wp2
        go_ret
        exact ⟨HK.out.2.2.trans HF.out.2 (fun _ _ h => h), .inr ⟨k, by have := HN.out; omega, rfl, HK.out.1, by rw [← HX.out]; exact HP.out, HF.out.1⟩⟩
      | false =>
        rw [hp] at hc
        have HP := Lib.hid hp
        clear hp
        go_wp2_with fail
        refine hc.mono ?_
        rintro e W2 ⟨rfl, hR, hC⟩
        have HF := Lib.hid (⟨hR, hC⟩ : _ ∧ _)
        clear hR hC hc c0 c1
        go_wp2
        go_roundw
        case rel =>
          refine ⟨k + 1, by omega, by go_num, Lib.hid ⟨fun j hj => ?_, HF.out.1, HK.out.2.2.trans HF.out.2 (fun _ _ h => h)⟩⟩
          by_cases e : j = k
          · subst e; rw [← HX.out]; exact HP.out
          · exact HK.out.1 j (by omega)
        case measure => simp [intOf]; omega
    · have ej : k = n := by omega
      subst ej
      go_wp2
      go_ret
      refine ⟨HK.out.2.2, .inl ⟨rfl, fun j hj => HK.out.1 j (by have := HN.out; omega), ?_⟩⟩
      have := HK.out.2.1
      rw [HN.out] at this
      exact this
set_option maxRecDepth 20000 in
set_option maxHeartbeats 2000000 in
theorem index62_40  {w : World} {v : Value} {l : List (Int × Int)} {p : Int × Int → Bool} {R : Nat → World → Prop} {G : Nat → Prop} (hcl : Cls 40 [] l p R G) (hO : OwnF w 38 2 fch v l) (hG : ∀ k, v.ownBlock = some k → ¬ G k) (h0 : R 0 w) (hl : l.length ≤ 1000) :
    Calls Try.prog 62 #[v, .func (.func 40) #[] #[]] w (IdxPost l p R G w) := by
  obtain ⟨A, c, rfl, hcap, _⟩ := hO.form
  obtain ⟨n, hn⟩ : ∃ n, n = l.length := ⟨_, rfl⟩
  have HN := Lib.hid hn
  have HO := Lib.hid hO
  have HG := Lib.hid hG
  have HCL := Lib.hid hcl
  have H0 := Lib.hid h0
  rw [← hn] at hl ⊢
  clear hn hO hG hcl h0 hcap
  go_enter Try.func62, Try.ntmps62
  go_wp2
  go_loopw [5, 8] (fun a i wr => ∃ (k : Nat), k ≤ n ∧ i = .int .i64 k ∧ Hid ((∀ j, j < k → p (l.getD j d0) = false) ∧ R k wr ∧ Chg G w wr)) (fun _ i _ => n - (intOf i).toNat)
  case atStart => exact ⟨0, by omega, rfl, Lib.hid ⟨fun j hj => by omega, H0.out, Chg.refl _ _⟩⟩
  case round =>
    obtain ⟨k, hk, rfl, HK⟩ := hrel
    by_cases hk2 : k < n
    · have hkl : k < l.length := by have := HN.out; omega
      obtain ⟨b, c2, e1, e2, e3, c0, c1, _, _⟩ := ownF_cells (HO.out.chg HK.out.2.2 HG.out) hkl
      simp only [Value.slice.injEq] at e1
      obtain ⟨rfl, -, rfl⟩ := e1
      have hc := HCL.out k _ hkl HK.out.2.1
      simp only [aggC, List.append_toArray, List.cons_append, List.nil_append] at hc
      obtain ⟨x, hx⟩ : ∃ x, x = l.getD k d0 := ⟨_, rfl⟩
      rw [← hx] at hc c0 c1
      have HX := Lib.hid hx
      clear hx e2 e3 hkl
      cases hp : p x with
      | true =>
        rw [hp] at hc
        have HP := Lib.hid hp
        clear hp
        go_wp2_with fail
        refine hc.mono ?_
        rintro e W2 ⟨rfl, hR, hC⟩
        have HF := Lib.hid (⟨hR, hC⟩ : _ ∧ _)
        clear hR hC hc c0 c1
        go_wp2
        go_ret
        exact ⟨HK.out.2.2.trans HF.out.2 (fun _ _ h => h), .inr ⟨k, by have := HN.out; omega, rfl, HK.out.1, by rw [← HX.out]; exact HP.out, HF.out.1⟩⟩
      | false =>
        rw [hp] at hc
        have HP := Lib.hid hp
        clear hp
        go_wp2_with fail
        refine hc.mono ?_
        rintro e W2 ⟨rfl, hR, hC⟩
        have HF := Lib.hid (⟨hR, hC⟩ : _ ∧ _)
        clear hR hC hc c0 c1
        go_wp2
        go_roundw
        case rel =>
          refine ⟨k + 1, by omega, by go_num, Lib.hid ⟨fun j hj => ?_, HF.out.1, HK.out.2.2.trans HF.out.2 (fun _ _ h => h)⟩⟩
          by_cases e : j = k
          · subst e; rw [← HX.out]; exact HP.out
          · exact HK.out.1 j (by omega)
        case measure => simp [intOf]; omega
    · have ej : k = n := by omega
      subst ej
      go_wp2
      go_ret
      refine ⟨HK.out.2.2, .inl ⟨rfl, fun j hj => HK.out.1 j (by have := HN.out; omega), ?_⟩⟩
      have := HK.out.2.1
      rw [HN.out] at this
      exact this
set_option maxRecDepth 20000 in
set_option maxHeartbeats 4000000 in
theorem delete37_38 (pe pn : Addr) {w : World} {v : Value} {l : List (Int × Int)} {p : Int × Int → Bool} {R : Nat → World → Prop} {G : Nat → Prop} (hcl : Cls 38 [.pointer (some pe), .pointer (some pn)] l p R G) (hO : OwnF w 38 2 fch v l) (hG : ∀ k, v.ownBlock = some k → ¬ G k) (hG2 : ∀ k, G k → k < w.heap.size) (hR : ∀ k W W', R k W → Chg (fun j => v.ownBlock = some j) W W' → R k W') (h0 : R 0 w) (hl : l.length ≤ 1000) :
    Calls Try.prog 37 #[v, .func (.func 38) #[] #[.pointer (some pe), .pointer (some pn)]] w (DelPost l p R G v w) := by
  have hi := index62_38 pe pn hcl hO hG h0 hl
  obtain ⟨A, c, rfl, hcap, _⟩ := hO.form
  obtain ⟨n, hn⟩ : ∃ n, n = l.length := ⟨_, rfl⟩
  have HN := Lib.hid hn
  have HH := Lib.hid (⟨hO, hG, hcl, hG2, hR⟩ : _ ∧ _ ∧ _ ∧ _ ∧ _)
  rw [← hn] at hl hi hcap ⊢
  clear hn hO hG hcl h0 hR hG2
  go_enter Try.func37, Try.ntmps37
  go_wp2_with fail
  refine hi.mono ?_
  rintro e w1 ⟨hC, h | h⟩
  · obtain ⟨rfl, hno, hR⟩ := h
    have HF := Lib.hid (⟨hC, hno, hR⟩ : _ ∧ _ ∧ _)
    clear hC hno hR hi
    go_wp2
    go_ret
    obtain ⟨hC, hno, hR⟩ := HF.out
    have hfe := filter_none (p := p) (Nat.le_refl l.length) hno
    rw [List.take_length] at hfe
    refine ⟨_, rfl, ?_, hR, hC.mono (fun k _ h => .inr h), rfl⟩
    rw [hfe]
    have := HH.out.1
    rw [← HN.out] at this
    exact this.chg hC (by have := HH.out.2.1; rw [← HN.out] at this; exact this)
  · obtain ⟨k0, hk0, rfl, hno, hyes, hR⟩ := h
    have HF : Hid (DelI l p R G (.slice A n c) w k0 (k0 + 1) w1) := Lib.hid (by
      have := HH.out.1
      have hg := HH.out.2.1
      rw [← HN.out] at this hg
      refine ⟨l, this.chg hC hg, rfl, ?_, rfl, hR, hC.mono (fun k _ h => .inr h)⟩
      rw [take_snocC l k0 hk0, List.filter_append, filter_none (by omega) hno]
      generalize l.getD k0 d0 = x at hyes
      simp [hyes])
    rw [← HN.out] at hk0
    clear hC hno hR hyes hi
    have hne1 : ((k0 : Int) == -1) = false := beq_eq_false_iff_ne.2 (by omega)
    go_wp2
    go_loopw [5, 6] (fun a b wr => ∃ (i j : Nat), i < j ∧ j ≤ n ∧ a = .int .i64 i ∧ b = .int .i64 j ∧ Hid (DelI l p R G (.slice A n c) w i j wr)) (fun a b _ => n - (intOf b).toNat)
    case atStart => exact ⟨k0, k0 + 1, by omega, by omega, rfl, by go_num, HF⟩
    case round =>
      obtain ⟨i, j, hij, hjn, rfl, rfl, HI⟩ := hrel
      by_cases hj2 : j < n
      · obtain ⟨m, hOm, hml, hti, hdj, hRj, hCj⟩ := HI.out
        have hnl := HN.out
        have hil : i < m.length := by omega
        have hjl : j < m.length := by omega
        obtain ⟨b, c2, e1, e2, e3, c0, c1, _, _⟩ := ownF_cells hOm hjl
        simp only [Value.slice.injEq] at e1
        obtain ⟨rfl, -, rfl⟩ := e1
        rw [drop_eqC hdj j (Nat.le_refl _)] at c0 c1
        obtain ⟨x, hx⟩ : ∃ x, x = l.getD j d0 := ⟨_, rfl⟩
        rw [← hx] at c0 c1
        have hgq := HH.out.2.2.2.2 j _ (wr.alloc (.cells #[.int .u64 x.1, .int .i64 x.2] 38)) hRj ((Chg.refl _ _).alloc _)
        have hc := HH.out.2.2.1 j _ (by omega) hgq
        simp only [aggC, List.append_toArray, List.cons_append, List.nil_append] at hc
        rw [← hx] at hc
        have HM := Lib.hid (⟨hOm, hml, hti, hdj, hRj, hCj, hx, hil, hnl⟩ : _ ∧ _ ∧ _ ∧ _ ∧ _ ∧ _ ∧ _ ∧ _ ∧ _)
        clear hOm hml hti hdj hRj hCj e2 e3 hgq hil hjl HI hnl hx
        cases hp : p x with
        | true =>
          rw [hp] at hc
          have HP := Lib.hid hp
          clear hp
          go_wp2_with fail
          refine hc.mono ?_
          rintro e W2 ⟨rfl, hR2, hC2⟩
          have HF := Lib.hid (⟨hR2, hC2⟩ : _ ∧ _)
          clear hR2 hC2 hc c0 c1
          go_wp2
          go_roundw
          case rel =>
            refine ⟨i, j + 1, by omega, by omega, rfl, by go_num, Lib.hid ?_⟩
            obtain ⟨hOm, hml, hti, hdj, hRj, hCj, hx, hil, hnl⟩ := HM.out
            have hgn := HH.out.2.1
            rw [← hnl] at hgn
            obtain ⟨k1, k2⟩ := del_skip (p := p) (by omega : j < l.length) hti hdj (by rw [← hx]; exact HP.out)
            have hA : Chg G wr W2 := ((Chg.refl G wr).alloc _).trans HF.out.2 (fun _ _ h => h)
            exact ⟨m, hOm.chg hA hgn, hml, k1, k2, HF.out.1, hCj.trans hA (fun _ _ h => .inr h)⟩
          case measure => simp [intOf]; omega
        | false =>
          rw [hp] at hc
          have HP := Lib.hid hp
          clear hp
          go_wp2_with fail
          refine hc.mono ?_
          rintro e W2 ⟨rfl, hR2, hC2⟩
          obtain ⟨hOm, hml, hti, hdj, hRj, hCj, hx, hil, hnl⟩ := HM.out
          have hgn := HH.out.2.1
          rw [← hnl] at hgn
          have hnq : ¬ G wr.heap.size := fun h => by have := HH.out.2.2.2.1 _ h; have := hCj.size; omega
          have kq : W2.heap[wr.heap.size]? = some (.cells #[.int .u64 x.1, .int .i64 x.2] 38 (0, 0)) := (hC2.block _ (by simp) hnq).trans (heap_alloc_at _ _)
          have hA : Chg G wr W2 := ((Chg.refl G wr).alloc _).trans hC2 (fun _ _ h => h)
          have hO2 := hOm.chg hA hgn
          obtain ⟨b2, _, e1, _, _, u0, u1, f0, f1⟩ := ownF_cells hO2 hil
          simp only [Value.slice.injEq, Option.some.injEq, Addr.mk.injEq, and_true] at e1
          obtain ⟨rfl, -, -⟩ := e1
          have q0 := cell_of kq 0 rfl
          have q1 := cell_of kq 1 rfl
          have hbq : b ≠ wr.heap.size := by have := hOm.lt (k := b) rfl; omega
          obtain ⟨q, hq⟩ : ∃ q, q = wr.heap.size := ⟨_, rfl⟩
          rw [← hq] at q0 q1 hbq
          have HF := Lib.hid (⟨hR2, hA, hO2⟩ : _ ∧ _ ∧ _)
          have HQ := Lib.hid hq
          obtain ⟨uu0, hu0⟩ : ∃ u, u = (Value.int .u64 (m.getD i d0).1) := ⟨_, rfl⟩
          obtain ⟨uu1, hu1⟩ : ∃ u, u = (Value.int .i64 (m.getD i d0).2) := ⟨_, rfl⟩
          rw [← hu0] at u0
          rw [← hu1] at u1
          clear hR2 hC2 hc c0 c1 hOm hml hti hdj hRj hCj hx hil hnl hnq kq hA hO2 hu0 hu1 hgn
          rw [← hq]
          clear hq
          go_wp2
          go_roundw
          case rel =>
            refine ⟨i + 1, j + 1, by omega, by omega, by go_num, by go_num, Lib.hid ?_⟩
            obtain ⟨hOm, hml, hti, hdj, hRj, hCj, hx, hil, hnl⟩ := HM.out
            have hgn := HH.out.2.1
            rw [← hnl] at hgn
            have hst := HH.out.2.2.2.2
            rw [← hnl] at hst
            obtain ⟨hR2, hA, hO2⟩ := HF.out
            obtain ⟨k1, k2⟩ := del_keep (p := p) (by omega : j < l.length) hml hij hti hdj (by rw [← hx]; exact HP.out)
            rw [← hx] at k1 k2
            have hS : Chg (fun k => k = b) W2 ((W2.setCell ⟨b, i * 2, none⟩ (.int .u64 x.1)).setCell ⟨b, i * 2 + 1, none⟩ (.int .i64 x.2)) := Chg.setCell (F := fun k => k = b) (p := ⟨b, i * 2 + 1, none⟩) (Chg.setCell (F := fun k => k = b) (p := ⟨b, i * 2, none⟩) (Chg.refl _ _) (fun _ => rfl) _) (fun _ => rfl) _
            exact ⟨m.set i x, setC hO2 rfl hil x, by rw [List.length_set]; exact hml, k1, k2, hst _ _ _ hR2 (hS.mono (fun k _ e => by rw [e]; rfl)), (hCj.trans hA (fun _ _ h => .inr h)).trans hS (fun k _ e => .inl (by rw [e]; rfl))⟩
          case measure => simp [intOf]; omega
      · obtain rfl : j = n := by omega
        obtain ⟨m, hOm, hml, hti, hdj, hRj, hCj⟩ := HI.out
        have hnl := HN.out
        obtain ⟨b, c2, cur, e1, e2, e3, e4, e5, _⟩ := hOm.at_ layC d0 (by omega)
        simp only [Value.slice.injEq] at e1
        obtain ⟨rfl, -, rfl⟩ := e1
        obtain ⟨cur', hclr, hs', ht'⟩ := run_clear_row (P := Try.prog) (t := 32) (e := 38) (sz := 2) wr 0 (.agg #[.int .u64 0, .int .i64 0]) Try.underlying32 Try.zeroValue38 rfl (by intro u hu; have hu : u ∈ #[Value.int .u64 0, Value.int .i64 0] := hu; simp at hu; rcases hu with rfl | rfl <;> rfl) b (i * 2) (j - i) (c - i) e3 (by omega) (by omega) (by rw [e5]; omega)
        have hfin : Hid (DelPost l p R G (.slice (some ⟨b, 0, none⟩) j c) w (.returned (.slice (some ⟨b, 0, none⟩) i c)) (wr.setRow b cur')) := Lib.hid (by
          have hf : l.filter (fun x => !p x) = m.take i := by rw [hti, hnl, List.take_length]
          have hst := HH.out.2.2.2.2
          rw [← hnl] at hst
          have hS := chg_setRow wr b cur'
          refine ⟨_, rfl, ?_, ?_, hCj.trans hS (fun k _ e => .inl (by rw [e]; rfl)), rfl⟩
          · rw [hf]
            exact ownF_cut hOm (by omega) e3 (heap_setRow e3) hs' ht'
          · rw [← hnl]
            exact hst _ _ _ hRj (hS.mono (fun k _ e => by rw [e]; rfl)))
        clear hOm hml hti hdj hRj hCj hnl e2 e3 e4 e5 hs' ht' HI
        go_wp2
        go_ret
        exact hfin.out
set_option maxRecDepth 20000 in
set_option maxHeartbeats 4000000 in
theorem delete37_40  {w : World} {v : Value} {l : List (Int × Int)} {p : Int × Int → Bool} {R : Nat → World → Prop} {G : Nat → Prop} (hcl : Cls 40 [] l p R G) (hO : OwnF w 38 2 fch v l) (hG : ∀ k, v.ownBlock = some k → ¬ G k) (hG2 : ∀ k, G k → k < w.heap.size) (hR : ∀ k W W', R k W → Chg (fun j => v.ownBlock = some j) W W' → R k W') (h0 : R 0 w) (hl : l.length ≤ 1000) :
    Calls Try.prog 37 #[v, .func (.func 40) #[] #[]] w (DelPost l p R G v w) := by
  have hi := index62_40  hcl hO hG h0 hl
  obtain ⟨A, c, rfl, hcap, _⟩ := hO.form
  obtain ⟨n, hn⟩ : ∃ n, n = l.length := ⟨_, rfl⟩
  have HN := Lib.hid hn
  have HH := Lib.hid (⟨hO, hG, hcl, hG2, hR⟩ : _ ∧ _ ∧ _ ∧ _ ∧ _)
  rw [← hn] at hl hi hcap ⊢
  clear hn hO hG hcl h0 hR hG2
  go_enter Try.func37, Try.ntmps37
  go_wp2_with fail
  refine hi.mono ?_
  rintro e w1 ⟨hC, h | h⟩
  · obtain ⟨rfl, hno, hR⟩ := h
    have HF := Lib.hid (⟨hC, hno, hR⟩ : _ ∧ _ ∧ _)
    clear hC hno hR hi
    go_wp2
    go_ret
    obtain ⟨hC, hno, hR⟩ := HF.out
    have hfe := filter_none (p := p) (Nat.le_refl l.length) hno
    rw [List.take_length] at hfe
    refine ⟨_, rfl, ?_, hR, hC.mono (fun k _ h => .inr h), rfl⟩
    rw [hfe]
    have := HH.out.1
    rw [← HN.out] at this
    exact this.chg hC (by have := HH.out.2.1; rw [← HN.out] at this; exact this)
  · obtain ⟨k0, hk0, rfl, hno, hyes, hR⟩ := h
    have HF : Hid (DelI l p R G (.slice A n c) w k0 (k0 + 1) w1) := Lib.hid (by
      have := HH.out.1
      have hg := HH.out.2.1
      rw [← HN.out] at this hg
      refine ⟨l, this.chg hC hg, rfl, ?_, rfl, hR, hC.mono (fun k _ h => .inr h)⟩
      rw [take_snocC l k0 hk0, List.filter_append, filter_none (by omega) hno]
      generalize l.getD k0 d0 = x at hyes
      simp [hyes])
    rw [← HN.out] at hk0
    clear hC hno hR hyes hi
    have hne1 : ((k0 : Int) == -1) = false := beq_eq_false_iff_ne.2 (by omega)
    go_wp2
    go_loopw [5, 6] (fun a b wr => ∃ (i j : Nat), i < j ∧ j ≤ n ∧ a = .int .i64 i ∧ b = .int .i64 j ∧ Hid (DelI l p R G (.slice A n c) w i j wr)) (fun a b _ => n - (intOf b).toNat)
    case atStart => exact ⟨k0, k0 + 1, by omega, by omega, rfl, by go_num, HF⟩
    case round =>
      obtain ⟨i, j, hij, hjn, rfl, rfl, HI⟩ := hrel
      by_cases hj2 : j < n
      · obtain ⟨m, hOm, hml, hti, hdj, hRj, hCj⟩ := HI.out
        have hnl := HN.out
        have hil : i < m.length := by omega
        have hjl : j < m.length := by omega
        obtain ⟨b, c2, e1, e2, e3, c0, c1, _, _⟩ := ownF_cells hOm hjl
        simp only [Value.slice.injEq] at e1
        obtain ⟨rfl, -, rfl⟩ := e1
        rw [drop_eqC hdj j (Nat.le_refl _)] at c0 c1
        obtain ⟨x, hx⟩ : ∃ x, x = l.getD j d0 := ⟨_, rfl⟩
        rw [← hx] at c0 c1
        have hgq := HH.out.2.2.2.2 j _ (wr.alloc (.cells #[.int .u64 x.1, .int .i64 x.2] 38)) hRj ((Chg.refl _ _).alloc _)
        have hc := HH.out.2.2.1 j _ (by omega) hgq
        simp only [aggC, List.append_toArray, List.cons_append, List.nil_append] at hc
        rw [← hx] at hc
        have HM := Lib.hid (⟨hOm, hml, hti, hdj, hRj, hCj, hx, hil, hnl⟩ : _ ∧ _ ∧ _ ∧ _ ∧ _ ∧ _ ∧ _ ∧ _ ∧ _)
        clear hOm hml hti hdj hRj hCj e2 e3 hgq hil hjl HI hnl hx
        cases hp : p x with
        | true =>
          rw [hp] at hc
          have HP := Lib.hid hp
          clear hp
          go_wp2_with fail
          refine hc.mono ?_
          rintro e W2 ⟨rfl, hR2, hC2⟩
          have HF := Lib.hid (⟨hR2, hC2⟩ : _ ∧ _)
          clear hR2 hC2 hc c0 c1
          go_wp2
          go_roundw
          case rel =>
            refine ⟨i, j + 1, by omega, by omega, rfl, by go_num, Lib.hid ?_⟩
            obtain ⟨hOm, hml, hti, hdj, hRj, hCj, hx, hil, hnl⟩ := HM.out
            have hgn := HH.out.2.1
            rw [← hnl] at hgn
            obtain ⟨k1, k2⟩ := del_skip (p := p) (by omega : j < l.length) hti hdj (by rw [← hx]; exact HP.out)
            have hA : Chg G wr W2 := ((Chg.refl G wr).alloc _).trans HF.out.2 (fun _ _ h => h)
            exact ⟨m, hOm.chg hA hgn, hml, k1, k2, HF.out.1, hCj.trans hA (fun _ _ h => .inr h)⟩
          case measure => simp [intOf]; omega
        | false =>
          rw [hp] at hc
          have HP := Lib.hid hp
          clear hp
          go_wp2_with fail
          refine hc.mono ?_
          rintro e W2 ⟨rfl, hR2, hC2⟩
          obtain ⟨hOm, hml, hti, hdj, hRj, hCj, hx, hil, hnl⟩ := HM.out
          have hgn := HH.out.2.1
          rw [← hnl] at hgn
          have hnq : ¬ G wr.heap.size := fun h => by have := HH.out.2.2.2.1 _ h; have := hCj.size; omega
          have kq : W2.heap[wr.heap.size]? = some (.cells #[.int .u64 x.1, .int .i64 x.2] 38 (0, 0)) := (hC2.block _ (by simp) hnq).trans (heap_alloc_at _ _)
          have hA : Chg G wr W2 := ((Chg.refl G wr).alloc _).trans hC2 (fun _ _ h => h)
          have hO2 := hOm.chg hA hgn
          obtain ⟨b2, _, e1, _, _, u0, u1, f0, f1⟩ := ownF_cells hO2 hil
          simp only [Value.slice.injEq, Option.some.injEq, Addr.mk.injEq, and_true] at e1
          obtain ⟨rfl, -, -⟩ := e1
          have q0 := cell_of kq 0 rfl
          have q1 := cell_of kq 1 rfl
          have hbq : b ≠ wr.heap.size := by have := hOm.lt (k := b) rfl; omega
          obtain ⟨q, hq⟩ : ∃ q, q = wr.heap.size := ⟨_, rfl⟩
          rw [← hq] at q0 q1 hbq
          have HF := Lib.hid (⟨hR2, hA, hO2⟩ : _ ∧ _ ∧ _)
          have HQ := Lib.hid hq
          obtain ⟨uu0, hu0⟩ : ∃ u, u = (Value.int .u64 (m.getD i d0).1) := ⟨_, rfl⟩
          obtain ⟨uu1, hu1⟩ : ∃ u, u = (Value.int .i64 (m.getD i d0).2) := ⟨_, rfl⟩
          rw [← hu0] at u0
          rw [← hu1] at u1
          clear hR2 hC2 hc c0 c1 hOm hml hti hdj hRj hCj hx hil hnl hnq kq hA hO2 hu0 hu1 hgn
          rw [← hq]
          clear hq
          go_wp2
          go_roundw
          case rel =>
            refine ⟨i + 1, j + 1, by omega, by omega, by go_num, by go_num, Lib.hid ?_⟩
            obtain ⟨hOm, hml, hti, hdj, hRj, hCj, hx, hil, hnl⟩ := HM.out
            have hgn := HH.out.2.1
            rw [← hnl] at hgn
            have hst := HH.out.2.2.2.2
            rw [← hnl] at hst
            obtain ⟨hR2, hA, hO2⟩ := HF.out
            obtain ⟨k1, k2⟩ := del_keep (p := p) (by omega : j < l.length) hml hij hti hdj (by rw [← hx]; exact HP.out)
            rw [← hx] at k1 k2
            have hS : Chg (fun k => k = b) W2 ((W2.setCell ⟨b, i * 2, none⟩ (.int .u64 x.1)).setCell ⟨b, i * 2 + 1, none⟩ (.int .i64 x.2)) := Chg.setCell (F := fun k => k = b) (p := ⟨b, i * 2 + 1, none⟩) (Chg.setCell (F := fun k => k = b) (p := ⟨b, i * 2, none⟩) (Chg.refl _ _) (fun _ => rfl) _) (fun _ => rfl) _
            exact ⟨m.set i x, setC hO2 rfl hil x, by rw [List.length_set]; exact hml, k1, k2, hst _ _ _ hR2 (hS.mono (fun k _ e => by rw [e]; rfl)), (hCj.trans hA (fun _ _ h => .inr h)).trans hS (fun k _ e => .inl (by rw [e]; rfl))⟩
          case measure => simp [intOf]; omega
      · obtain rfl : j = n := by omega
        obtain ⟨m, hOm, hml, hti, hdj, hRj, hCj⟩ := HI.out
        have hnl := HN.out
        obtain ⟨b, c2, cur, e1, e2, e3, e4, e5, _⟩ := hOm.at_ layC d0 (by omega)
        simp only [Value.slice.injEq] at e1
        obtain ⟨rfl, -, rfl⟩ := e1
        obtain ⟨cur', hclr, hs', ht'⟩ := run_clear_row (P := Try.prog) (t := 32) (e := 38) (sz := 2) wr 0 (.agg #[.int .u64 0, .int .i64 0]) Try.underlying32 Try.zeroValue38 rfl (by intro u hu; have hu : u ∈ #[Value.int .u64 0, Value.int .i64 0] := hu; simp at hu; rcases hu with rfl | rfl <;> rfl) b (i * 2) (j - i) (c - i) e3 (by omega) (by omega) (by rw [e5]; omega)
        have hfin : Hid (DelPost l p R G (.slice (some ⟨b, 0, none⟩) j c) w (.returned (.slice (some ⟨b, 0, none⟩) i c)) (wr.setRow b cur')) := Lib.hid (by
          have hf : l.filter (fun x => !p x) = m.take i := by rw [hti, hnl, List.take_length]
          have hst := HH.out.2.2.2.2
          rw [← hnl] at hst
          have hS := chg_setRow wr b cur'
          refine ⟨_, rfl, ?_, ?_, hCj.trans hS (fun k _ e => .inl (by rw [e]; rfl)), rfl⟩
          · rw [hf]
            exact ownF_cut hOm (by omega) e3 (heap_setRow e3) hs' ht'
          · rw [← hnl]
            exact hst _ _ _ hRj (hS.mono (fun k _ e => by rw [e]; rfl)))
        clear hOm hml hti hdj hRj hCj hnl e2 e3 e4 e5 hs' ht' HI
        go_wp2
        go_ret
        exact hfin.out
end Go.Proofs.Ytpndkelbchjkiaa
