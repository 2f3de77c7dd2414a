/- A chain of numbers: its methods. -/
import Derived.Test.YthoagpagnldmeaaCg
set_option linter.unusedVariables false
set_option linter.unusedSimpArgs false
namespace Go.Proofs.Ythoagpagnldmeaa
open Go.RowKit Go.Ps
/-- What a method that may write leaves. -/
def ChPost (tm tc : TypeId) (r : Value) (g : Nat) (mp : Option Nat) (X Y : List Mem) (n' : Int) (w w' : World) : Prop :=
  ∃ mp', ChW tm tc w' g mp' Y n' ∧ Chg (Mine g mp X) w w' ∧ (∀ k, Mine g mp' Y k → Mine g mp X k ∨ w.heap.size ≤ k)
section
variable {tm tc : TypeId} {w w1 w2 : World} {g bm b : Nat} {mp : Option Nat} {A B : List Mem} {n : Int} {v : Value}
theorem put_apt (h : ChW tm tc w g mp (A ++ B) n) (hb : w.heap.size ≤ b) : Apt g A ⟨b, n + 1, v⟩ B :=
  Apt.of2 h.row.nd h.row.ng (by have := h.lt (.inl rfl); simp; omega) (fun x hx => by have := h.row.lt (.inr ⟨x, hx, rfl⟩); simp; omega)
theorem put_fin (h : ChW tm tc w g mp (A ++ B) n) (hn0 : 0 ≤ n) (hb : w.heap.size ≤ b) (hbm : mp = some bm ∨ w.heap.size ≤ bm) (hbb : bm ≠ b) (hbg : bm ≠ g) (hM : MapIs w1 (some bm) (⟨b, n + 1, v⟩ :: (A ++ B))) (hC : Chg (Mine g mp (A ++ B)) w w1)
    (hR : Row tm tc w2 g (some bm) (A ++ ⟨b, n + 1, v⟩ :: B) (n + 1)) (hC2 : Chg (Wr g A ⟨b, n + 1, v⟩ B) w1 w2) (r : Value) : ChPost tm tc r g mp (A ++ B) (A ++ ⟨b, n + 1, v⟩ :: B) (n + 1) w w2 := by
  have hX : ∀ x ∈ A ++ B, x.b ≠ bm := by
    intro x hx e
    rcases hbm with h1 | h1
    · exact h.xm x hx (by rw [h1, e])
    · have := h.row.lt (.inr ⟨x, hx, rfl⟩); omega
  have hXA : ∀ k, In A k ∨ In B k → In (A ++ B) k := by
    rintro k (⟨x, hx, rfl⟩ | ⟨x, hx, rfl⟩) <;> exact ⟨x, by simp [hx], rfl⟩
  refine ⟨some bm, ⟨hR, ?_, ?_, ?_, ?_, ?_⟩, ?_, ?_⟩
  · refine MapIs.perm (X := ⟨b, n + 1, v⟩ :: (A ++ B)) (hM.same (fun k hk => hC2.block k (hM.lt hk) ?_)) List.perm_middle.symm
    cases hk
    rintro (e | e | e)
    · exact hbg e
    · exact hbb e
    · obtain ⟨x, hx, e⟩ := hXA _ e
      exact hX x hx e
  · have hp : ((A ++ ⟨b, n + 1, v⟩ :: B).map (·.h)).Perm ((⟨b, n + 1, v⟩ :: (A ++ B)).map (·.h)) := List.Perm.map _ List.perm_middle
    rw [hp.nodup_iff]
    simp only [List.map_cons, List.nodup_cons, List.mem_map]
    refine ⟨?_, h.hs⟩
    rintro ⟨x, hx, e⟩
    have := (h.hb x hx).2
    omega
  · intro x hx
    have hx2 : x = ⟨b, n + 1, v⟩ ∨ x ∈ A ++ B := by
      simp only [List.mem_append, List.mem_cons] at hx ⊢
      rcases hx with hx | hx | hx <;> simp [hx]
    rcases hx2 with rfl | hx2
    · exact ⟨by simp; omega, by simp⟩
    · have := h.hb x hx2
      exact ⟨this.1, by omega⟩
  · exact fun e => hbg (Option.some.inj e)
  · intro x hx e
    have e2 : bm = x.b := Option.some.inj e
    have hx2 : x = ⟨b, n + 1, v⟩ ∨ x ∈ A ++ B := by
      simp only [List.mem_append, List.mem_cons] at hx ⊢
      rcases hx with hx | hx | hx <;> simp [hx]
    rcases hx2 with rfl | hx2
    · exact hbb e2
    · exact hX x hx2 e2.symm
  · refine hC.trans hC2 ?_
    rintro k hk (e | e | e)
    · exact .inl e
    · simp at e; omega
    · exact .inr (.inr (hXA k e))
  · rintro k (e | e | ⟨x, hx, e⟩)
    · exact .inl (.inl e)
    · cases e
      rcases hbm with h1 | h1
      · exact .inl (.inr (.inl h1))
      · exact .inr h1
    · have hx2 : x = ⟨b, n + 1, v⟩ ∨ x ∈ A ++ B := by
        simp only [List.mem_append, List.mem_cons] at hx ⊢
        rcases hx with hx | hx | hx <;> simp [hx]
      rcases hx2 with rfl | hx2
      · exact .inr (by simp at e; omega)
      · exact .inl (.inr (.inr ⟨x, hx2, e⟩))
end
theorem ptr_eq (a b : Nat) : (ptr (some a) = ptr (some b)) ↔ a = b := by simp [ptr]
theorem last_nil (z : Int) (w : World) : Calls Try.prog 13 #[.pointer none, .int .i64 z] w fun e w' => e = .returned (.int .i64 0) ∧ w' = w := by
  go_enter Try.func13, Try.ntmps13
  go_wp2
  go_ret
  exact ⟨rfl, rfl⟩
theorem first_nil (z : Int) (w : World) : Calls Try.prog 29 #[.pointer none, .int .i64 z] w fun e w' => e = .returned (.int .i64 0) ∧ w' = w := by
  go_enter Try.func29, Try.ntmps29
  go_wp2
  go_ret
  exact ⟨rfl, rfl⟩
theorem ahead_nil (k : Int) (z : Int) (w : World) : Calls Try.prog 26 #[.pointer none, .int .i64 k, .int .i64 z] w fun e w' => e = .returned (.tuple #[.int .i64 0, .int .i64 1]) ∧ w' = w := by
  go_enter Try.func26, Try.ntmps26
  go_wp2
  go_ret2
  exact ⟨rfl, rfl⟩
theorem move_nil (k j : Int) (w : World) : Calls Try.prog 30 #[.pointer none, .int .i64 k, .int .i64 j] w fun e w' => e = .returned (.int .i64 1) ∧ w' = w := by
  go_enter Try.func30, Try.ntmps30
  go_wp2
  go_ret
  exact ⟨rfl, rfl⟩
theorem len_nil  (w : World) : Calls Try.prog 15 #[.pointer none] w fun e w' => e = .returned (.int .i64 0) ∧ w' = w := by
  go_enter Try.func15, Try.ntmps15
  go_wp2
  go_ret
  exact ⟨rfl, rfl⟩
theorem remove_nil (k : Int) (w : World) : Calls Try.prog 27 #[.pointer none, .int .i64 k] w fun e w' => e = .returned (.tuple #[.int .i64 0, .bool false]) ∧ w' = w := by
  go_enter Try.func27, Try.ntmps27
  go_wp2_with fail
  refine (find_nil _ _).mono ?_
  rintro e w' ⟨rfl, rfl⟩
  go_wp2
  go_ret2
  exact ⟨rfl, rfl⟩
theorem get_nil (k : Int) (w : World) : Calls Try.prog 28 #[.pointer none, .int .i64 k] w fun e w' => e = .returned (.tuple #[.int .i64 0, .bool false]) ∧ w' = w := by
  go_enter Try.func28, Try.ntmps28
  go_wp2_with fail
  refine (find_nil _ _).mono ?_
  rintro e w' ⟨rfl, rfl⟩
  go_wp2
  go_ret2
  exact ⟨rfl, rfl⟩
theorem set_nil (k : Int) (z : Int) (w : World) : Calls Try.prog 31 #[.pointer none, .int .i64 k, .int .i64 z] w fun e w' => e = .returned (.bool false) ∧ w' = w := by
  go_enter Try.func31, Try.ntmps31
  go_wp2_with fail
  refine (find_nil _ _).mono ?_
  rintro e w' ⟨rfl, rfl⟩
  go_wp2
  go_ret
  exact ⟨rfl, rfl⟩
theorem new_any (w : World) : Calls Try.prog 12 #[] w fun e w' => ∃ g, e = .returned (.pointer (some ⟨g, 0, none⟩)) ∧ w.heap.size ≤ g ∧ ChW 95 54 w' g none [] 0 ∧ Chg (fun _ => False) w w' := by
  have fin : ChW 95 54 (w.alloc (.cells #[.pointer none, .pointer none, .map none, .int .i64 0] 54)) w.heap.size none [] 0 :=
    ⟨⟨heap_alloc_at _ _, trivial, by simp, by simp⟩, rfl, by simp, by simp, by simp, by simp⟩
  go_enter Try.func12, Try.ntmps12
  go_wp2
  go_ret
  exact ⟨_, rfl, Nat.le_refl _, fin, (Chg.refl _ _).alloc _⟩
set_option maxRecDepth 20000 in
theorem last_any {w : World} {g : Nat} {mp : Option Nat} {X : List Mem} {n : Int} (z : Int) (h : ChW 95 54 w g mp X n) (hn0 : 0 ≤ n) (hn : n < 1000000) :
    Calls Try.prog 13 #[.pointer (some ⟨g, 0, none⟩), .int .i64 z] w fun e w' => ∃ b, e = .returned (.int .i64 (n + 1)) ∧ ChPost 95 54 undef g mp X (X ++ ⟨b, n + 1, .int .i64 z⟩ :: []) (n + 1) w w' := by
  have hf := fresh_any z h hn0 hn
  have H := Lib.hid h
  have H0 := Lib.hid hn0
  clear h hn0 hn
  go_enter Try.func13, Try.ntmps13
  go_wp2_with fail
  refine hf.mono ?_
  rintro e w1 ⟨bm, b, rfl, hb, hbm, hbb, hbg, hR, hN, hM, hC⟩
  have hap : Apt g X ⟨b, n + 1, .int .i64 z⟩ [] := put_apt (A := X) (B := []) (by simpa using H.out) hb
  have hl := link_any (A := X) (B := []) (by simpa using hR) hN hap
  have HF := Lib.hid (fun w2 hR2 hC2 => put_fin (A := X) (B := []) (w1 := w1) (w2 := w2) (by simpa using H.out) H0.out hb hbm hbb hbg (by simpa using hM) (by simpa using hC) hR2 hC2 undef)
  clear hb hbm hbb hbg hR hN hM hC hap hf
  go_wp2_with fail
  refine hl.mono ?_
  rintro e w2 ⟨rfl, hR2, hC2⟩
  have fin := HF.out w2 hR2 hC2
  rw [List.append_nil] at fin
  obtain ⟨y0, y1, y2, y3⟩ := read4 hR2.seg.node
  have FIN := Lib.hid fin
  clear fin hR2 hC2 hl
  go_wp2
  go_ret
  exact ⟨b, rfl, FIN.out⟩
set_option maxRecDepth 20000 in
theorem first_any {w : World} {g : Nat} {mp : Option Nat} {X : List Mem} {n : Int} (z : Int) (h : ChW 95 54 w g mp X n) (hn0 : 0 ≤ n) (hn : n < 1000000) :
    Calls Try.prog 29 #[.pointer (some ⟨g, 0, none⟩), .int .i64 z] w fun e w' => ∃ b, e = .returned (.int .i64 (n + 1)) ∧ ChPost 95 54 undef g mp X ([] ++ ⟨b, n + 1, .int .i64 z⟩ :: X) (n + 1) w w' := by
  have hf := fresh_any z h hn0 hn
  have H := Lib.hid h
  have H0 := Lib.hid hn0
  clear h hn0 hn
  go_enter Try.func29, Try.ntmps29
  go_wp2_with fail
  refine hf.mono ?_
  rintro e w1 ⟨bm, b, rfl, hb, hbm, hbb, hbg, hR, hN, hM, hC⟩
  have hap : Apt g [] ⟨b, n + 1, .int .i64 z⟩ X := put_apt (A := []) (B := X) (by simpa using H.out) hb
  have hl := link_any (A := []) (B := X) (by simpa using hR) hN hap
  have HF := Lib.hid (fun w2 hR2 hC2 => put_fin (A := []) (B := X) (w1 := w1) (w2 := w2) (by simpa using H.out) H0.out hb hbm hbb hbg (by simpa using hM) (by simpa using hC) hR2 hC2 undef)
  obtain ⟨x0, x1, x2, x3⟩ := read4 hR.cell
  clear hb hbm hbb hbg hR hN hM hC hap hf
  go_wp2_with fail
  refine hl.mono ?_
  rintro e w2 ⟨rfl, hR2, hC2⟩
  have fin := HF.out w2 hR2 hC2
  rw [List.nil_append] at fin
  obtain ⟨y0, y1, y2, y3⟩ := read4 hR2.seg.node
  have FIN := Lib.hid fin
  clear fin hR2 hC2 hl x0 x1 x2 x3
  go_wp2
  go_ret
  exact ⟨b, rfl, FIN.out⟩
set_option maxRecDepth 20000 in
theorem ahead_some_any {w : World} {g : Nat} {mp : Option Nat} {k : Int} {A : List Mem} {x : Mem} {B : List Mem} (hk : findH (A ++ x :: B) k = some x) {n : Int} (z : Int) (h : ChW 95 54 w g mp (A ++ x :: B) n) (hn0 : 0 ≤ n) (hn : n < 1000000) :
    Calls Try.prog 26 #[.pointer (some ⟨g, 0, none⟩), .int .i64 k, .int .i64 z] w fun e w' => ∃ b, e = .returned (.tuple #[.int .i64 (n + 1), .int .i64 0]) ∧ ChPost 95 54 undef g mp (A ++ x :: B) (A ++ ⟨b, n + 1, .int .i64 z⟩ :: (x :: B)) (n + 1) w w' := by
  have hf := fresh_any z h hn0 hn
  have H := Lib.hid h
  have H0 := Lib.hid hn0
  have hfi := find_any h k
  rw [hk, show ptrM (some x) = .pointer (some ⟨x.b, 0, none⟩) from rfl] at hfi
  clear h hn0 hn
  go_enter Try.func26, Try.ntmps26
  go_wp2_with fail
  refine hfi.mono ?_
  rintro e w' ⟨rfl, rfl⟩
  go_wp2_with fail
  refine hf.mono ?_
  rintro e w1 ⟨bm, b, rfl, hb, hbm, hbb, hbg, hR, hN, hM, hC⟩
  have hap : Apt g A ⟨b, n + 1, .int .i64 z⟩ (x :: B) := put_apt H.out hb
  have hl := link_any hR hN hap
  have HF := Lib.hid (fun w2 hR2 hC2 => put_fin (w1 := w1) (w2 := w2) H.out H0.out hb hbm hbb hbg hM hC hR2 hC2 undef)
  clear hb hbm hbb hbg hR hN hM hC hap hf
  go_wp2_with fail
  refine hl.mono ?_
  rintro e w2 ⟨rfl, hR2, hC2⟩
  have fin := HF.out w2 hR2 hC2
  obtain ⟨y0, y1, y2, y3⟩ := read4 hR2.seg.node
  have FIN := Lib.hid fin
  clear fin hR2 hC2 hl
  go_wp2
  go_ret2
  exact ⟨b, rfl, FIN.out⟩
theorem ahead_none {w : World} {g : Nat} {mp : Option Nat} {X : List Mem} {n k : Int} (z : Int) (h : ChW 95 54 w g mp X n) (hk : findH X k = none) :
    Calls Try.prog 26 #[.pointer (some ⟨g, 0, none⟩), .int .i64 k, .int .i64 z] w fun e w' => e = .returned (.tuple #[.int .i64 0, .int .i64 5]) ∧ w' = w := by
  have hfi := find_any h k
  rw [hk, show ptrM none = .pointer none from rfl] at hfi
  clear h
  go_enter Try.func26, Try.ntmps26
  go_wp2_with fail
  refine hfi.mono ?_
  rintro e w' ⟨rfl, rfl⟩
  go_wp2
  go_ret2
  exact ⟨rfl, rfl⟩
end Go.Proofs.Ythoagpagnldmeaa
