/- A chain of numbers: Remove, Move, Get, Set, Len. -/
import Derived.Test.YthoagpagnldmeaaCm
import Derived.LaidEqlPtr
set_option linter.unusedVariables false
set_option linter.unusedSimpArgs false
namespace Go.Proofs.Ythoagpagnldmeaa
open Go.RowKit Go.Ps
section
variable {tm tc : TypeId} {w w1 w2 : World} {g : Nat} {mp : Option Nat} {A B C D : List Mem} {m x : Mem} {n : Int} {v : Value}
theorem In.sub {X Y : List Mem} {k : Nat} (h : In X k) (hs : ∀ x ∈ X, x ∈ Y) : In Y k := by obtain ⟨x, hx, e⟩ := h; exact ⟨x, hs x hx, e⟩
theorem mem_cut {x : Mem} (hx : x ∈ A ++ B) : x ∈ A ++ m :: B := by
  rcases List.mem_append.1 hx with hx | hx <;> simp [hx]
theorem wr_mine {k : Nat} (h : Wr g A m B k) : Mine g mp (A ++ m :: B) k := by
  rcases h with e | e | ⟨x, hx, e⟩ | ⟨x, hx, e⟩
  · exact .inl e
  · exact .inr (.inr ⟨m, by simp, e.symm⟩)
  · exact .inr (.inr ⟨x, by simp [hx], e⟩)
  · exact .inr (.inr ⟨x, by simp [hx], e⟩)
/-- Taken out of the row and of the map. -/
theorem cut_fin (h : ChW tm tc w g mp (A ++ m :: B) n) (hR : Row tm tc w1 g mp (A ++ B) n) (hC : Chg (Wr g A m B) w w1) {bm : Nat} (hbm : mp = some bm) {ps : List (Int × Value)} (h1 : ps.length = (A ++ m :: B).length) (h2 : ∀ x ∈ A ++ m :: B, IM.get ps x.h (.pointer none) = .pointer (some ⟨x.b, 0, none⟩))
    (h3 : ∀ k, (∀ x ∈ A ++ m :: B, x.h ≠ k) → IM.has ps k = false) (h4 : (ps.map Prod.fst).Nodup) (hm : IMap w2 bm (IM.del m.h ps)) (hg : w1.grownBy w2 (some bm)) (r : Value) : ChPost tm tc r g mp (A ++ m :: B) (A ++ B) n w w2 := by
  subst hbm
  have hs : ∀ k, k < w1.heap.size → k ≠ bm → w2.heap[k]? = w1.heap[k]? := fun k hk hne => hg.block k hk (fun e => hne (Option.some.inj e))
  refine ⟨some bm, ⟨hR.same (fun k hk => hs k (hR.lt hk) ?_), MapIs.cut h1 h2 h3 h4 h.hs hm, ?_, fun x hx => h.hb x (mem_cut hx), h.gm, fun x hx => h.xm x (mem_cut hx)⟩, ?_, ?_⟩
  · rcases hk with rfl | ⟨x, hx, rfl⟩
    · exact fun e => h.gm (by rw [e])
    · exact fun e => h.xm x (mem_cut hx) (by rw [e])
  · have := h.hs
    simp only [List.map_append, List.map_cons] at this ⊢
    exact this.sublist (List.Sublist.append (List.Sublist.refl _) (List.sublist_cons_self _ _))
  · exact ((hC.mono (G := Mine g (some bm) (A ++ m :: B)) (fun k _ hk => wr_mine hk))).grown hg (fun k hk _ => .inr (.inl hk))
  · rintro k (e | e | e)
    · exact .inl (.inl e)
    · exact .inl (.inr (.inl e))
    · exact .inl (.inr (.inr (e.sub (fun x hx => mem_cut hx))))
/-- Moved. -/
theorem move_fin (h : ChW tm tc w g mp (A ++ m :: B) n) (hAB : A ++ B = C ++ D) (hC : Chg (Wr g A m B) w w1) (hR : Row tm tc w2 g mp (C ++ m :: D) n) (hC2 : Chg (Wr g C m D) w1 w2) (r : Value) : ChPost tm tc r g mp (A ++ m :: B) (C ++ m :: D) n w w2 := by
  have hp : (A ++ m :: B).Perm (C ++ m :: D) := List.perm_middle.trans (by rw [hAB]; exact List.perm_middle.symm)
  have hCh : Chg (Mine g mp (A ++ m :: B)) w w2 := (hC.mono (fun k _ hk => wr_mine hk)).trans hC2 (fun k _ hk => by
    rcases wr_mine (mp := mp) hk with e | e | e
    · exact .inl e
    · exact .inr (.inl e)
    · exact .inr (.inr (e.sub (fun x hx => hp.mem_iff.2 hx))))
  have hCm : Chg (fun k => Wr g A m B k ∨ Wr g C m D k) w w2 := (hC.mono (fun k _ hk => .inl hk)).trans hC2 (fun k _ hk => .inr hk)
  have hnb : ∀ k, mp = some k → ¬ (Wr g A m B k ∨ Wr g C m D k) := by
    intro k hk hw
    have hw2 : k = g ∨ In (A ++ m :: B) k := by
      rcases hw with hw | hw
      · rcases hw with e | e | ⟨x, hx, e⟩ | ⟨x, hx, e⟩
        · exact .inl e
        · exact .inr ⟨m, by simp, e.symm⟩
        · exact .inr ⟨x, by simp [hx], e⟩
        · exact .inr ⟨x, by simp [hx], e⟩
      · rcases hw with e | e | ⟨x, hx, e⟩ | ⟨x, hx, e⟩
        · exact .inl e
        · exact .inr ⟨m, by simp, e.symm⟩
        · exact .inr ⟨x, hp.mem_iff.2 (by simp [hx]), e⟩
        · exact .inr ⟨x, hp.mem_iff.2 (by simp [hx]), e⟩
    rcases hw2 with e | ⟨x, hx, e⟩
    · exact h.gm (by rw [hk, e])
    · exact h.xm x hx (by rw [hk, e])
  refine ⟨mp, ⟨hR, ?_, (hp.map _).nodup_iff.1 h.hs, fun x hx => h.hb x (hp.mem_iff.2 hx), h.gm, fun x hx => h.xm x (hp.mem_iff.2 hx)⟩, hCh, ?_⟩
  · exact (h.map.same (fun k hk => hCm.block k (h.map.lt hk) (hnb k hk))).perm hp
  · rintro k (e | e | e)
    · exact .inl (.inl e)
    · exact .inl (.inr (.inl e))
    · exact .inl (.inr (.inr (e.sub (fun x hx => hp.mem_iff.2 hx))))
theorem seg_val : ∀ {A B : List Mem} {m m' : Mem} {p q : Option Nat}, m'.b = m.b → Seg tm w p (A ++ m :: B) q → (∀ x ∈ A, x.b ≠ m.b) → (∀ x ∈ B, x.b ≠ m.b) → (∀ x ∈ A ++ B, w1.heap[x.b]? = w.heap[x.b]?) → (∀ p q, Node tm w m p q → Node tm w1 m' p q) → Seg tm w1 p (A ++ m' :: B) q
  | A, B, m, m', p, q, hb, h, ha, hB, hs, hn => by
    rw [seg_append] at h ⊢
    refine ⟨?_, hn _ _ h.2.1, ?_⟩
    · have := h.1.same (W' := w1) (fun x hx => hs x (by simp [hx]))
      simpa [hd, hb] using this
    · rw [hb]
      exact h.2.2.same (fun x hx => hs x (by simp [hx]))
/-- Set. -/
theorem set_fin (h : ChW tm tc w g mp (A ++ m :: B) n) (v : Value) (r : Value) : ChPost tm tc r g mp (A ++ m :: B) (A ++ ⟨m.b, m.h, v⟩ :: B) n w (w.setCell ⟨m.b, 1, none⟩ v) := by
  have ha := Apt.of h.row.nd h.row.ng
  have hC : Chg (fun k => k = m.b) w (w.setCell ⟨m.b, 1, none⟩ v) := chg1 (F := fun k => k = m.b) (Chg.refl _ w) rfl _
  have hmem : ∀ x ∈ A ++ ⟨m.b, m.h, v⟩ :: B, ∃ y ∈ A ++ m :: B, y.b = x.b ∧ y.h = x.h := by
    intro x hx
    simp only [List.mem_append, List.mem_cons] at hx
    rcases hx with hx | rfl | hx
    · exact ⟨x, by simp [hx], rfl, rfl⟩
    · exact ⟨m, by simp, rfl, rfl⟩
    · exact ⟨x, by simp [hx], rfl, rfl⟩
  have hmem2 : ∀ x ∈ A ++ m :: B, ∃ y ∈ A ++ ⟨m.b, m.h, v⟩ :: B, y.b = x.b ∧ y.h = x.h := by
    intro x hx
    simp only [List.mem_append, List.mem_cons] at hx
    rcases hx with hx | rfl | hx
    · exact ⟨x, by simp [hx], rfl, rfl⟩
    · exact ⟨⟨x.b, x.h, v⟩, by simp, rfl, rfl⟩
    · exact ⟨x, by simp [hx], rfl, rfl⟩
  refine ⟨mp, ⟨⟨?_, ?_, ?_, ?_⟩, ?_, ?_, ?_, h.gm, ?_⟩, hC.mono (fun k _ e => .inr (.inr ⟨m, by simp, e.symm⟩)), ?_⟩
  · rw [heap_setCell_ne (Ne.symm ha.g2), h.row.cell]
    congr 4
    · simp [hd_append, hd_cons]
    · simp [lst_append, lst_cons]
  · refine seg_val (m := m) rfl h.row.seg ha.am ha.bm (fun x hx => heap_setCell_ne ?_ _) (fun p q hn => node_val hn v)
    rcases List.mem_append.1 hx with hx | hx
    · exact ha.am x hx
    · exact ha.bm x hx
  · have := h.row.nd
    simpa using this
  · intro x hx
    obtain ⟨y, hy, e, _⟩ := hmem x hx
    rw [← e]; exact h.row.ng y hy
  · have hM := h.map.same (W' := w.setCell ⟨m.b, 1, none⟩ v) (fun k hk => hC.block k (h.map.lt hk) (fun e => h.xm m (by simp) (by rw [hk, e])))
    cases mp with
    | none =>
      have : A ++ m :: B = [] := hM
      simp at this
    | some bm =>
      obtain ⟨ps, hm, h1, h2, h3, h4⟩ := hM
      refine ⟨ps, hm, by simpa using h1, fun x hx => ?_, fun k hk => h3 k (fun x hx => ?_), h4⟩
      · obtain ⟨y, hy, e, e2⟩ := hmem x hx
        rw [← e, ← e2]; exact h2 y hy
      · obtain ⟨y, hy, e, e2⟩ := hmem2 x hx
        rw [← e2]; exact hk y hy
  · have := h.hs
    simpa using this
  · intro x hx
    obtain ⟨y, hy, e, e2⟩ := hmem x hx
    rw [← e2]; exact h.hb y hy
  · intro x hx
    obtain ⟨y, hy, e, e2⟩ := hmem x hx
    rw [← e]; exact h.xm y hy
  · rintro k (e | e | ⟨x, hx, e⟩)
    · exact .inl (.inl e)
    · exact .inl (.inr (.inl e))
    · obtain ⟨y, hy, e1, e2⟩ := hmem x hx
      exact .inl (.inr (.inr ⟨y, hy, e1.trans e⟩))
end
set_option maxRecDepth 20000 in
theorem get_none {w : World} {g : Nat} {mp : Option Nat} {X : List Mem} {n k : Int} (h : ChW 95 54 w g mp X n) (hk : findH X k = none) :
    Calls Try.prog 28 #[.pointer (some ⟨g, 0, none⟩), .int .i64 k] w fun e w' => e = .returned (.tuple #[.int .i64 0, .bool false]) ∧ w' = w := by
  have hfi := find_any h k
  rw [hk, show ptrM none = .pointer none from rfl] at hfi
  clear h
  go_enter Try.func28, Try.ntmps28
  go_wp2_with fail
  refine hfi.mono ?_
  rintro e w' ⟨rfl, rfl⟩
  go_wp2
  go_ret2
  exact ⟨rfl, rfl⟩
set_option maxRecDepth 20000 in
theorem get_some {w : World} {g : Nat} {mp : Option Nat} {X : List Mem} {n k : Int} {x : Mem} (z : Int) (h : ChW 95 54 w g mp X n) (hk : findH X k = some x) (hz : x.v = .int .i64 z) :
    Calls Try.prog 28 #[.pointer (some ⟨g, 0, none⟩), .int .i64 k] w fun e w' => e = .returned (.tuple #[.int .i64 z, .bool true]) ∧ w' = w := by
  have hfi := find_any h k
  rw [hk, show ptrM (some x) = .pointer (some ⟨x.b, 0, none⟩) from rfl] at hfi
  obtain ⟨p, q, hn⟩ := h.row.seg.mem x (findH_some hk).1
  obtain ⟨y0, y1, y2, y3⟩ := read4 hn
  rw [hz] at y1
  clear h hn hz
  go_enter Try.func28, Try.ntmps28
  go_wp2_with fail
  refine hfi.mono ?_
  rintro e w' ⟨rfl, rfl⟩
  go_wp2
  go_ret2
  exact ⟨rfl, rfl⟩
set_option maxRecDepth 20000 in
theorem set_none {w : World} {g : Nat} {mp : Option Nat} {X : List Mem} {n k : Int} (z : Int) (h : ChW 95 54 w g mp X n) (hk : findH X k = none) :
    Calls Try.prog 31 #[.pointer (some ⟨g, 0, none⟩), .int .i64 k, .int .i64 z] w fun e w' => e = .returned (.bool false) ∧ w' = w := by
  have hfi := find_any h k
  rw [hk, show ptrM none = .pointer none from rfl] at hfi
  clear h
  go_enter Try.func31, Try.ntmps31
  go_wp2_with fail
  refine hfi.mono ?_
  rintro e w' ⟨rfl, rfl⟩
  go_wp2
  go_ret
  exact ⟨rfl, rfl⟩
set_option maxRecDepth 20000 in
theorem set_some {w : World} {g : Nat} {mp : Option Nat} {A B : List Mem} {n k : Int} {x : Mem} (z y : Int) (h : ChW 95 54 w g mp (A ++ x :: B) n) (hk : findH (A ++ x :: B) k = some x) (hz : x.v = .int .i64 y) :
    Calls Try.prog 31 #[.pointer (some ⟨g, 0, none⟩), .int .i64 k, .int .i64 z] w fun e w' => e = .returned (.bool true) ∧ ChPost 95 54 undef g mp (A ++ x :: B) (A ++ ⟨x.b, x.h, .int .i64 z⟩ :: B) n w w' := by
  have hfi := find_any h k
  rw [hk, show ptrM (some x) = .pointer (some ⟨x.b, 0, none⟩) from rfl] at hfi
  obtain ⟨p, q, hn⟩ := h.row.seg.mem x (by simp)
  obtain ⟨y0, y1, y2, y3⟩ := read4 hn
  have f0 := frz hn
  rw [hz] at y1
  have FIN := Lib.hid (set_fin h (.int .i64 z) undef)
  clear h hn hz
  go_enter Try.func31, Try.ntmps31
  go_wp2_with fail
  refine hfi.mono ?_
  rintro e w' ⟨rfl, rfl⟩
  go_wp2
  go_ret
  exact ⟨rfl, FIN.out⟩
set_option maxRecDepth 20000 in
theorem len_any {w : World} {g : Nat} {mp : Option Nat} {X : List Mem} {n : Int} (h : ChW 95 54 w g mp X n) :
    Calls Try.prog 15 #[.pointer (some ⟨g, 0, none⟩)] w fun e w' => e = .returned (.int .i64 X.length) ∧ w' = w := by
  obtain ⟨x0, x1, x2, x3⟩ := read4 h.row.cell
  cases mp with
  | none =>
    have hX : X = [] := h.map
    subst hX
    have hr := fun (w : World) => Maps.len_nil (P := Try.prog) (w := w) (t := 52) (k := 3) (e := 51) Try.underlying52 3
    clear h
    go_enter Try.func15, Try.ntmps15
    go_wp2
    go_ret
    exact ⟨rfl, rfl⟩
  | some bm =>
    obtain ⟨ps, hm, hl, h2, h3, h4⟩ := h.map
    have hr := hm.len Try.underlying52 3
    rw [hl] at hr
    clear h hm hl h2 h3 h4
    go_enter Try.func15, Try.ntmps15
    go_wp2
    go_ret
    exact ⟨rfl, rfl⟩
set_option maxRecDepth 20000 in
theorem remove_none {w : World} {g : Nat} {mp : Option Nat} {X : List Mem} {n k : Int} (h : ChW 95 54 w g mp X n) (hk : findH X k = none) :
    Calls Try.prog 27 #[.pointer (some ⟨g, 0, none⟩), .int .i64 k] w fun e w' => e = .returned (.tuple #[.int .i64 0, .bool false]) ∧ w' = w := by
  have hfi := find_any h k
  rw [hk, show ptrM none = .pointer none from rfl] at hfi
  clear h
  go_enter Try.func27, Try.ntmps27
  go_wp2_with fail
  refine hfi.mono ?_
  rintro e w' ⟨rfl, rfl⟩
  go_wp2
  go_ret2
  exact ⟨rfl, rfl⟩
set_option maxRecDepth 20000 in
theorem remove_some {w : World} {g : Nat} {mp : Option Nat} {A B : List Mem} {n k : Int} {m : Mem} (z : Int) (h : ChW 95 54 w g mp (A ++ m :: B) n) (hk : findH (A ++ m :: B) k = some m) (hz : m.v = .int .i64 z) :
    Calls Try.prog 27 #[.pointer (some ⟨g, 0, none⟩), .int .i64 k] w fun e w' => e = .returned (.tuple #[.int .i64 z, .bool true]) ∧ ChPost 95 54 undef g mp (A ++ m :: B) (A ++ B) n w w' := by
  have hfi := find_any h k
  rw [hk, show ptrM (some m) = .pointer (some ⟨m.b, 0, none⟩) from rfl] at hfi
  have hkm : m.h = k := (findH_some hk).2
  cases mp with
  | none =>
    have : A ++ m :: B = [] := h.map
    simp at this
  | some bm =>
    obtain ⟨ps, hm, h1, h2, h3, h4⟩ := h.map
    have hul := unlink_any h.row (Apt.of h.row.nd h.row.ng)
    have H := Lib.hid h
    have HM := Lib.hid hm
    have HX := Lib.hid (⟨h1, h2, h3, h4⟩ : _ ∧ _ ∧ _ ∧ _)
    clear h hm h1 h2 h3 h4 hk
    go_enter Try.func27, Try.ntmps27
    go_wp2_with fail
    refine hfi.mono ?_
    rintro e w' ⟨rfl, rfl⟩
    go_wp2_with fail
    refine hul.mono ?_
    rintro e w1 ⟨rfl, hR, ⟨p, q, hN⟩, hC⟩
    have hnb : ¬ Wr g A m B bm := by
      rintro (e | e | ⟨x, hx, e⟩ | ⟨x, hx, e⟩)
      · exact H.out.gm (by rw [e])
      · exact H.out.xm m (by simp) (by rw [e])
      · exact H.out.xm x (by simp [hx]) (by rw [e])
      · exact H.out.xm x (by simp [hx]) (by rw [e])
    obtain ⟨w2, hrun, hm2, hg⟩ := (HM.out.chg hC hnb).drop Try.underlying52 Try.underlying3 k 0
    have hmb : m.b ≠ bm := fun e => H.out.xm m (by simp) (by rw [e])
    have hN2 : Node 95 w2 m p q := (hg.block _ (heap_lt hN) (fun e => hmb (Option.some.inj e))).trans hN
    obtain ⟨y0, y1, y2, y3⟩ := read4 hN2
    rw [hz] at y1
    obtain ⟨x0, x1, x2, x3⟩ := read4 hR.cell
    have FIN := Lib.hid (cut_fin H.out hR hC rfl HX.out.1 HX.out.2.1 HX.out.2.2.1 HX.out.2.2.2 (by rw [hkm]; exact hm2) hg undef)
    clear hR hN hC hm2 hg hN2 hmb hnb hz hkm
    go_wp2
    go_ret2
    exact ⟨rfl, FIN.out⟩
set_option maxRecDepth 20000 in
theorem move_none {w : World} {g : Nat} {mp : Option Nat} {X : List Mem} {n k j : Int} (h : ChW 95 54 w g mp X n) (hk : findH X k = none ∨ findH X j = none) :
    Calls Try.prog 30 #[.pointer (some ⟨g, 0, none⟩), .int .i64 k, .int .i64 j] w fun e w' => e = .returned (.int .i64 5) ∧ w' = w := by
  have hfi := find_any h k
  have hfj := find_any h j
  clear h
  cases h1 : findH X k with
  | none =>
    rw [h1, show ptrM none = .pointer none from rfl] at hfi
    clear hk
    go_enter Try.func30, Try.ntmps30
    go_wp2_with fail
    refine hfi.mono ?_
    rintro e w' ⟨rfl, rfl⟩
    go_wp2_with fail
    refine hfj.mono ?_
    rintro e w' ⟨rfl, rfl⟩
    go_wp2
    go_ret
    exact ⟨rfl, rfl⟩
  | some x =>
    have h2 : findH X j = none := hk.resolve_left (by rw [h1]; simp)
    rw [h1, show ptrM (some x) = .pointer (some ⟨x.b, 0, none⟩) from rfl] at hfi
    rw [h2, show ptrM none = .pointer none from rfl] at hfj
    clear hk h1 h2
    go_enter Try.func30, Try.ntmps30
    go_wp2_with fail
    refine hfi.mono ?_
    rintro e w' ⟨rfl, rfl⟩
    go_wp2_with fail
    refine hfj.mono ?_
    rintro e w' ⟨rfl, rfl⟩
    go_wp2
    go_ret
    exact ⟨rfl, rfl⟩
set_option maxRecDepth 20000 in
theorem info95 : ∃ j, Try.prog.info? 95 = some j ∧ j.size ≠ 0 := by
  have h : (Try.prog.info? 95).map (fun j => j.size) = some 4 := by kernel_rfl
  obtain ⟨j, h1, h2⟩ := Option.map_eq_some_iff.1 h
  exact ⟨j, h1, by rw [h2]; decide⟩
set_option maxRecDepth 20000 in
theorem move_same {w : World} {g : Nat} {mp : Option Nat} {X : List Mem} {n k j : Int} {x : Mem} (h : ChW 95 54 w g mp X n) (h1 : findH X k = some x) (h2 : findH X j = some x) :
    Calls Try.prog 30 #[.pointer (some ⟨g, 0, none⟩), .int .i64 k, .int .i64 j] w fun e w' => e = .returned (.int .i64 1) ∧ w' = w := by
  have hfi := find_any h k
  have hfj := find_any h j
  obtain ⟨ji, hj1, hj2⟩ := info95
  have hEQ := run_eql_ptr_same (P := Try.prog) w ⟨x.b, 0, none⟩ Try.underlying51 hj1
  clear h hj1 hj2
  rw [h1, show ptrM (some x) = .pointer (some ⟨x.b, 0, none⟩) from rfl] at hfi
  rw [h2, show ptrM (some x) = .pointer (some ⟨x.b, 0, none⟩) from rfl] at hfj
  clear h1 h2
  go_enter Try.func30, Try.ntmps30
  go_wp2_with fail
  refine hfi.mono ?_
  rintro e w' ⟨rfl, rfl⟩
  go_wp2_with fail
  refine hfj.mono ?_
  rintro e w' ⟨rfl, rfl⟩
  go_wp2
  go_ret
  exact ⟨rfl, rfl⟩
set_option maxRecDepth 20000 in
theorem move_some {w : World} {g : Nat} {mp : Option Nat} {A B C D : List Mem} {n k j : Int} {m x : Mem} (h : ChW 95 54 w g mp (A ++ m :: B) n) (h1 : findH (A ++ m :: B) k = some m) (h2 : findH (A ++ m :: B) j = some x) (hAB : A ++ B = C ++ x :: D) :
    Calls Try.prog 30 #[.pointer (some ⟨g, 0, none⟩), .int .i64 k, .int .i64 j] w fun e w' => e = .returned (.int .i64 0) ∧ ChPost 95 54 undef g mp (A ++ m :: B) (C ++ m :: x :: D) n w w' := by
  have hfi := find_any h k
  have hfj := find_any h j
  rw [h1, show ptrM (some m) = .pointer (some ⟨m.b, 0, none⟩) from rfl] at hfi
  rw [h2, show ptrM (some x) = .pointer (some ⟨x.b, 0, none⟩) from rfl] at hfj
  clear h1 h2
  have ha := Apt.of h.row.nd h.row.ng
  have hul := unlink_any h.row ha
  have hx : x ∈ A ++ B := by rw [hAB]; simp
  have hne : x.b ≠ m.b := by
    rcases List.mem_append.1 hx with hx | hx
    · exact ha.am x hx
    · exact ha.bm x hx
  obtain ⟨ji, hj1, hj2⟩ := info95
  obtain ⟨p1, q1, hn1⟩ := h.row.seg.mem m (by simp)
  obtain ⟨p2, q2, hn2⟩ := h.row.seg.mem x (mem_cut hx)
  have hEQ := run_eql_ptr_other (P := Try.prog) (a := ⟨m.b, 0, none⟩) (b := ⟨x.b, 0, none⟩) w Try.underlying51 hj1 hj2 (fun e => hne (by have := congrArg Addr.block e; simpa using this.symm)) hn1 hn2
  clear hj1 hj2 hn1 hn2
  have hap : Apt g C m (x :: D) := Apt.of2 (by rw [← hAB]; exact ha.nodup2) (by rw [← hAB]; exact fun x hx => h.row.ng x (mem_cut hx)) ha.g2 (by
    rw [← hAB]
    intro y hy
    rcases List.mem_append.1 hy with hy | hy
    · exact ha.am y hy
    · exact ha.bm y hy)
  have H := Lib.hid h
  have HA := Lib.hid hAB
  have HP := Lib.hid hap
  clear h ha hx hAB hap hne
  go_enter Try.func30, Try.ntmps30
  go_wp2_with fail
  refine hfi.mono ?_
  rintro e w' ⟨rfl, rfl⟩
  go_wp2_with fail
  refine hfj.mono ?_
  rintro e w' ⟨rfl, rfl⟩
  go_wp2_with fail
  refine hul.mono ?_
  rintro e w1 ⟨rfl, hR, ⟨p, q, hN⟩, hC⟩
  have hl := link_any (A := C) (B := x :: D) (by rw [← HA.out]; exact hR) hN HP.out
  have HC := Lib.hid hC
  clear hR hN hC
  go_wp2_with fail
  refine hl.mono ?_
  rintro e w2 ⟨rfl, hR2, hC2⟩
  have FIN := Lib.hid (move_fin H.out HA.out HC.out hR2 hC2 undef)
  clear hR2 hC2 hl
  go_wp2
  go_ret
  exact ⟨rfl, FIN.out⟩
end Go.Proofs.Ythoagpagnldmeaa
