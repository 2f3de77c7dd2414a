/- Strings and their bytes, for the laws. -/
import Derived.Test.YtcdbchdlenkdgaaTl
import Derived.Lib.ConvBytes
import Derived.ArgAppend
import Derived.Laws.Concat
set_option linter.unusedVariables false
set_option linter.unusedSimpArgs false
namespace Go.Ps
open Go.RowKit
theorem strOf_size (l : List Int) : (strOf l).size = l.length := by simp [strOf, ByteArray.size]
theorem strOf_append (l m : List Int) : strOf l ++ strOf m = strOf (l ++ m) := by
  apply ByteArray.ext
  rw [ByteArray.data_append]
  simp [strOf]
theorem strOf_data {l : List Int} (hb : ∀ x ∈ l, isByte x) : (strOf l).data.map (fun b => Value.int .u8 b.toNat) = (l.map (Value.int .u8)).toArray := by
  apply Array.ext'
  simp only [strOf, Array.toList_map, List.map_map]
  refine List.map_congr_left fun x hx => ?_
  have := hb x hx
  unfold isByte at this
  have e : ((UInt8.ofNat x.toNat).toNat : Int) = x := by rw [UInt8.toNat_ofNat']; omega
  simp only [Function.comp, e]
theorem strOf_getD {l : List Int} (hb : ∀ x ∈ l, isByte x) (j : Nat) (hj : j < l.length) : (((strOf l).data.toList.getD j 0).toNat : Int) = l.getD j 0 := by
  have hx := hb l[j] (by simp)
  unfold isByte at hx
  simp only [strOf, List.getD_eq_getElem?_getD, List.getElem?_map, List.getElem?_eq_getElem hj, Option.map_some, Option.getD_some]
  rw [UInt8.toNat_ofNat']
  omega
/-- '[]byte(s)': the bytes, in a new block. -/
theorem conv_reads {P : Program} {src dst e : TypeId} (hs : P.underlying src = some .string) (hd : P.underlying dst = some (.slice e)) (he : P.underlying e = some (.int .u8)) (w : World) {l : List Int} (hb : ∀ x ∈ l, isByte x) (hl : l.length ≤ 200000000000000) :
    ∃ c w1, (convert src dst (.string (strOf l))).run P w = .ok (.slice (some ⟨w.heap.size, 0, none⟩) l.length c) w1 ∧ ReadsI w1 .u8 (some ⟨w.heap.size, 0, none⟩) l ∧ l.length ≤ c ∧ Chg (fun _ => False) w w1 ∧ w1.heap.size = w.heap.size + 1 ∧
      (∀ j, j < c → (w1.cell? ⟨w.heap.size, j, none⟩).isSome = true) ∧ (∀ j, j < c → w1.frozen? ⟨w.heap.size, j, none⟩ = false) := by
  have h := Lib.run_convert_string_bytes w src dst e (strOf l) hs hd he
  have hge := grownCap_ge w (strOf l).size 0 e
  rw [strOf_size] at h hge
  have hsz : (Lib.bytesCells w e (strOf l)).size = grownCap w l.length 0 e := by
    simp only [Lib.bytesCells, strOf_size, Array.size_append, Array.size_map, Array.size_replicate]
    have : (strOf l).data.size = l.length := strOf_size l
    omega
  have hnew := Lib.bytesWorld_at_new w e (strOf l)
  refine ⟨_, _, h, fun _ => ⟨_, rfl, fun i hi => ?_⟩, hge, ⟨rfl, rfl, rfl, by rw [Lib.bytesWorld_size]; omega, fun k hk _ => Lib.bytesWorld_at_old w e _ k hk⟩, Lib.bytesWorld_size w e _, fun j hj => ?_, fun j hj => ?_⟩
  · rw [add_zero, Lib.bytesWorld_cell w e (strOf l) i (by rw [strOf_size]; exact hi), strOf_getD hb i hi]
  · rw [cell_of_row _ _ _ _ _ _ hnew]
    simp [hsz, hj]
  · simp only [World.frozen?, hnew, hsz]
    simp
    omega
theorem chg_setCells {F : Nat → Prop} {a : World} (g : Nat) (hF : g < a.heap.size → F g) : ∀ (vs : List Value) (o : Nat) (w : World), Chg F a w → Chg F a (w.setCells g o vs)
  | [], _, _, h => h
  | v :: r, o, w, h => chg_setCells g hF r (o + 1) _ (h.setCell hF v)
/-- append([]byte(s), m...). -/
theorem conv_append {P : Program} {t e : TypeId} (ht : P.underlying t = some (.slice e)) {z : Int} (hinfo : (P.info? e).map (fun i => (i.zero, i.size, i.bytes)) = some (some (.int .u8 z), 1, 1)) {w w1 : World} {l m : List Int} {B : Option Addr} {g c d : Nat}
    (hr : ReadsI w1 .u8 (some ⟨g, 0, none⟩) l) (hc : l.length ≤ c) (hg : w.heap.size ≤ g) (hch : Chg (fun _ => False) w w1) (h1 : ∀ j, j < c → (w1.cell? ⟨g, j, none⟩).isSome = true) (h2 : ∀ j, j < c → w1.frozen? ⟨g, j, none⟩ = false) (hm : ReadsI w1 .u8 B m) (hl : l.length + m.length ≤ 140737488355328) :
    ∃ A n d2 w2, (Builtin.append_ #[t, t] t #[.slice (some ⟨g, 0, none⟩) l.length c, .slice B m.length d]).run P w1 = .ok (.slice A n d2) w2 ∧ n = (l ++ m).length ∧ ReadsI w2 .u8 A (l ++ m) ∧ Chg (fun _ => False) w w2 ∧ n ≤ d2 := by
  obtain ⟨i, hi, hzz⟩ := Option.map_eq_some_iff.1 hinfo
  simp only [Prod.mk.injEq] at hzz
  obtain ⟨hz, hs, hb⟩ := hzz
  cases B with
  | none =>
    obtain rfl := hm.none
    refine ⟨some ⟨g, 0, none⟩, l.length, c, w1, ?_, by simp, by simpa using hr, hch, hc⟩
    simp [Builtin.append_, run_underlying ht, sizeOf, typeInfo, hi, Builtin.lenOf, Builtin.firstCells, hc, storeCells]
  | some a =>
    have hone : ∀ u ∈ m.map (Value.int .u8), u.oneCell' = true := by
      intro u hu
      obtain ⟨x, _, rfl⟩ := List.mem_map.1 hu
      rfl
    by_cases hroom : l.length + m.length ≤ c
    · have hrun := run_append_room_cells (P := P) w1 t t e i ht hi g 0 l.length c a m.length d (m.map (Value.int .u8)) (by simp [hs]) hm.cells hone hroom (fun j hj => by rw [hs, Nat.zero_add, Nat.mul_one]; exact h1 _ (by simp at hj; omega)) (fun j hj => by rw [hs, Nat.zero_add, Nat.mul_one]; exact h2 _ (by simp at hj; omega))
      refine ⟨_, _, _, _, hrun, by simp, ?_, ?_, hroom⟩
      · rw [hs, Nat.zero_add, Nat.mul_one]
        intro _
        refine ⟨_, rfl, fun k hk => ?_⟩
        rw [List.length_append] at hk
        rw [add_zero]
        by_cases hkl : k < l.length
        · rw [World.cell?_setCells_out _ _ _ _ _ (fun _ _ => Or.inl hkl)]
          have := hr.mem k hkl
          rw [add_zero] at this
          rw [this]
          congr 2
          simp [List.getD_eq_getElem?_getD, List.getElem?_append, hkl]
        · obtain ⟨j, rfl⟩ : ∃ j, k = l.length + j := ⟨k - l.length, by omega⟩
          rw [World.cell?_setCells_in _ _ _ _ (fun j hj => h1 _ (by simp at hj; omega)) j (by simp; omega)]
          have hj : j < m.length := by omega
          simp [List.getD_eq_getElem?_getD, List.getElem?_append, hj]
      · rw [hs, Nat.zero_add, Nat.mul_one]
        exact chg_setCells g (fun h => absurd h (by omega)) _ _ _ hch
    · obtain ⟨v', w2, hrun, ho, hgr⟩ := run_append_arg_grows (P := P) w1 t t e i (.int .u8 z) 1 1 ht hi hz hs hb rfl (by omega) ⟨g, 0, none⟩ l.length c (l.map (Value.int .u8)) (by simp) hr.cells a m.length d (m.map (Value.int .u8)) (by simp) hm.cells (by omega) (by unfold maxLen; omega) (by omega)
      have ho' : w2.ownsRow w1.heap.size e 1 v' (l ++ m).length ((l ++ m).map (Value.int .u8)) := by rw [List.length_append, List.map_append]; exact ho
      obtain ⟨A, c', rfl, hr', _⟩ := ReadsI.of_own ho'
      refine ⟨A, _, c', w2, hrun, rfl, hr', hch.grown hgr (fun k hk => by cases hk), ?_⟩
      rcases ho'.2 with ⟨hv, h0⟩ | ⟨g', cap, cur, hv, _, _, hnc, _⟩
      · simp only [Value.slice.injEq] at hv; omega
      · simp only [Value.slice.injEq] at hv; omega
end Go.Ps

namespace Go.Proofs.Ytcdbchdlenkdgaa
open Go.RowKit Go.Ps
/-- '[]byte(s)' and 'string(b)', over this program. -/
theorem toBytes (w : World) {l : List Int} (hb : Bytes l) (hl : l.length ≤ 200000000000000) :
    ∃ c w1, (convert 9 22 (.string (strOf l))).run Try.prog w = .ok (.slice (some ⟨w.heap.size, 0, none⟩) l.length c) w1 ∧ ReadsI w1 .u8 (some ⟨w.heap.size, 0, none⟩) l ∧ l.length ≤ c ∧ Chg (fun _ => False) w w1 ∧ w1.heap.size = w.heap.size + 1 ∧
      (∀ j, j < c → (w1.cell? ⟨w.heap.size, j, none⟩).isSome = true) ∧ (∀ j, j < c → w1.frozen? ⟨w.heap.size, j, none⟩ = false) :=
  conv_reads Try.underlying9 Try.underlying22 Try.underlying5 w hb hl
/-- append([]byte(s), m...) : the two steps, from the string. -/
theorem toBytesApp (w : World) {l m : List Int} {B : Option Addr} {d : Nat} (hb : Bytes l) (hm : ReadsI w .u8 B m) (hl : l.length + m.length ≤ 140737488355328) :
    ∃ c w1 A n d2 w2, (convert 9 22 (.string (strOf l))).run Try.prog w = .ok (.slice (some ⟨w.heap.size, 0, none⟩) l.length c) w1 ∧
      (Builtin.append_ #[22, 22] 22 #[.slice (some ⟨w.heap.size, 0, none⟩) l.length c, .slice B m.length d]).run Try.prog w1 = .ok (.slice A n d2) w2 ∧ n = (l ++ m).length ∧ ReadsI w2 .u8 A (l ++ m) ∧ Chg (fun _ => False) w w2 ∧ n ≤ d2 := by
  obtain ⟨c, w1, h1, h2, h3, h4, h5, h6, h7⟩ := toBytes w hb (by omega)
  obtain ⟨A, n, d2, w2, g1, g2, g3, g4, g5⟩ := conv_append (d := d) Try.underlying22 info5 h2 h3 (Nat.le_refl _) h4 h6 h7 (hm.chg h4 (fun _ _ => id)) hl
  exact ⟨c, w1, A, n, d2, w2, h1, g1, g2, g3, g4, g5⟩
end Go.Proofs.Ytcdbchdlenkdgaa
