/- Voters: Remove, Update. -/
import Derived.Test.YthoagpagnldmeaaVv
import Derived.Test.YthoagpagnldmeaaCi
set_option linter.unusedVariables false
set_option linter.unusedSimpArgs false
namespace Go.Proofs.Ythoagpagnldmeaa.V
open Go.RowKit Go.Ps
theorem set_self {α : Type} {l : List α} {i : Nat} {x : α} (h : l[i]? = some x) : l.set i x = l := by
  apply List.ext_getElem?
  intro j
  rw [List.getElem?_set]
  split
  · rename_i e
    subst e
    rw [if_pos (List.getElem?_eq_some_iff.1 h).1, h]
  · rfl
section
variable {w : World} {g bm : Nat} {tv rv : Value} {T : List Int} {rows : List (List Vo)} {N : Int} {col : Nat → Nat}
/-- Where a voter stands. -/
theorem VM.loc (h : VM w g bm tv rv T rows N col) {k : Int} {p : Vo} (hk : findV rows k = some p) : ∃ A B cs c, rows[p.bag]? = some (A ++ p :: B) ∧ VM0 w g bm tv rv T cs rows.flatten col ∧ Lk cs rows N ∧ cs[p.bag]? = some c ∧ c.X = A.map Vo.mem ++ p.mem :: B.map Vo.mem ∧ 0 ≤ c.n ∧ c.n ≤ N ∧ findH c.X p.h = some p.mem := by
  obtain ⟨cs, h0, hl⟩ := h.ex
  obtain ⟨hp, _⟩ := findV_some hk
  obtain ⟨i, l, hi, hpl⟩ := mem_flat hp
  have hb := h.bags i l hi p hpl
  obtain ⟨A, B, rfl⟩ := List.append_of_mem hpl
  subst hb
  obtain ⟨c, hc, hX, h1, h2⟩ := hl.get hi
  refine ⟨A, B, cs, c, hi, h0, hl, hc, by rw [hX]; simp, h1, h2, ?_⟩
  have hm : p.mem ∈ c.X := by rw [hX]; simp
  exact findH_nd (h0.ch _ c hc).hs hm
/-- The rows without a voter, and with another in its place. -/
theorem flat_at {A B : List Vo} {p : Vo} {i : Nat} (h : rows[i]? = some (A ++ p :: B)) : ∃ rest, rows.flatten.Perm (A ++ p :: (B ++ rest)) ∧ ∀ l', (rows.set i l').flatten.Perm (l' ++ rest) := by
  obtain ⟨rest, h1, h2⟩ := flat_set h
  exact ⟨rest, by simpa using h1, h2⟩
def RemPost (g bm : Nat) (tv rv : Value) (T : List Int) (rows : List (List Vo)) (N : Int) (col : Nat → Nat) (p : Vo) (w w' : World) : Prop :=
  ∃ A B col', rows[p.bag]? = some (A ++ p :: B) ∧ VM w' g bm tv rv T (rows.set p.bag (A ++ B)) N col' ∧ Stp col w col' w'
def UpdPost (g bm : Nat) (tv rv : Value) (T : List Int) (rows : List (List Vo)) (N : Int) (col : Nat → Nat) (p : Vo) (s : Int) (w w' : World) : Prop :=
  ∃ A B col', rows[p.bag]? = some (A ++ p :: B) ∧ VM w' g bm tv rv T (rows.set p.bag (A ++ { p with stake := s } :: B)) N col' ∧ Stp col w col' w'
set_option maxRecDepth 20000 in
theorem remove_no {k : Int} (h : VM w g bm tv rv T rows N col) (hk : findV rows k = none) : Calls Try.prog 40 #[.pointer (some ⟨g, 0, none⟩), .int .i64 k] w fun e w' => e = .returned (.int .i64 5) ∧ w' = w := by
  have hf := find_no h hk
  clear h hk
  go_enter Try.func40, Try.ntmps40
  go_wp2_with fail
  refine hf.mono ?_
  rintro e w' ⟨rfl, rfl⟩
  clear hf
  go_wp2
  go_ret
  exact ⟨rfl, rfl⟩
set_option maxRecDepth 20000 in
theorem update_no {k : Int} (s : Int) (h : VM w g bm tv rv T rows N col) (hk : findV rows k = none) : Calls Try.prog 42 #[.pointer (some ⟨g, 0, none⟩), .int .i64 k, .int .u64 s] w fun e w' => e = .returned (.int .i64 5) ∧ w' = w := by
  have hf := find_no h hk
  clear h hk
  go_enter Try.func42, Try.ntmps42
  go_wp2_with fail
  refine hf.mono ?_
  rintro e w' ⟨rfl, rfl⟩
  clear hf
  go_wp2
  go_ret
  exact ⟨rfl, rfl⟩
set_option maxRecDepth 20000 in
theorem update_any {k : Int} {p : Vo} (s : Int) (h : VM w g bm tv rv T rows N col) (hk : findV rows k = some p) : Calls Try.prog 42 #[.pointer (some ⟨g, 0, none⟩), .int .i64 k, .int .u64 s] w fun e w' => e = .returned (.int .i64 0) ∧ UpdPost g bm tv rv T rows N col p s w w' := by
  have hf := find_yes h hk
  obtain ⟨A, B, cs, c, hi, h0, hl, hc, hX, hn0, hnN, _⟩ := h.loc hk
  have hblk := h.vo (findV_some hk).1
  obtain ⟨y0, y1, y2⟩ := read3 hblk
  have yf := frz hblk
  have hfin : UpdPost g bm tv rv T rows N col p s w (w.setCell ⟨p.b, 0, none⟩ (.int .u64 s)) := by
    obtain ⟨rest, hp1, hp2⟩ := flat_at hi
    obtain ⟨h1, hs1⟩ := (h0.perm hp1).set (q := { p with stake := s }) rfl rfl (V := w.setCell ⟨p.b, 0, none⟩ (.int .u64 s)) (chg1 (F := fun k => k = p.b) (Chg.refl _ w) rfl _) (by rw [heap_setCell hblk]; rfl)
    have hq : (A ++ { p with stake := s } :: (B ++ rest)).Perm (rows.set p.bag (A ++ { p with stake := s } :: B)).flatten := by
      refine List.Perm.trans ?_ (hp2 _).symm
      simp
    refine ⟨A, B, col, hi, ⟨⟨cs, h1.perm hq, ?_⟩, bags_set h.bags (fun q hq => ?_), ?_, h.ris, h.tl, by rw [List.length_set]; exact h.len⟩, hs1⟩
    · have := hl.set (i := p.bag) (c := c) (l := A ++ { p with stake := s } :: B) (M := N) (Int.le_refl _) (by rw [hX]; simp [Vo.mem]) ⟨hn0, hnN⟩
      rwa [set_self hc] at this
    · rcases List.mem_append.1 hq with hq | hq
      · exact h.bags _ _ hi q (by simp [hq])
      · rcases List.mem_cons.1 hq with rfl | hq
        · rfl
        · exact h.bags _ _ hi q (by simp [hq])
    · refine ((hq.map _).nodup_iff).1 ?_
      have := ((hp1.map Vo.id).nodup_iff).1 h.ids
      simpa using this
  have HF := Lib.hid hfin
  clear h hk hi h0 hl hc hX hn0 hnN hfin hblk y1 y2
  go_enter Try.func42, Try.ntmps42
  go_wp2_with fail
  refine hf.mono ?_
  rintro e w' ⟨rfl, rfl⟩
  clear hf
  go_wp2
  go_ret
  exact ⟨rfl, HF.out⟩
set_option maxRecDepth 20000 in
set_option maxHeartbeats 2000000 in
theorem remove_any {k : Int} {p : Vo} (h : VM w g bm tv rv T rows N col) (hk : findV rows k = some p) : Calls Try.prog 40 #[.pointer (some ⟨g, 0, none⟩), .int .i64 k] w fun e w' => e = .returned (.int .i64 0) ∧ RemPost g bm tv rv T rows N col p w w' := by
  have hf := find_yes h hk
  obtain ⟨A, B, cs, c, hi, h0, hl, hc, hX, hn0, hnN, hfh⟩ := h.loc hk
  have hid := (findV_some hk).2
  obtain ⟨gr, cr, hrv, hgr, hcell⟩ := h0.row hc
  obtain ⟨L, hL⟩ : ∃ L, L = cs.length := ⟨_, rfl⟩
  have hmL : p.bag < L := by rw [hL]; exact (List.getElem?_eq_some_iff.1 hc).1
  obtain ⟨x0, x1, x2⟩ := read3 h0.cell
  obtain ⟨y0, y1, y2⟩ := read3 (h.vo (findV_some hk).1)
  have hch := ChW.same (W' := w.drew) (h0.ch _ c hc) (fun _ _ => rfl)
  rw [hX] at hch hfh
  have hrm := remove_some p.id hch hfh rfl
  rw [← hX] at hrm
  obtain ⟨gc, hgc⟩ : ∃ gc, gc = c.g := ⟨_, rfl⟩
  obtain ⟨bg, hbg⟩ : ∃ bg, bg = p.bag := ⟨_, rfl⟩
  obtain ⟨ph, hph⟩ : ∃ ph, ph = p.h := ⟨_, rfl⟩
  obtain ⟨pb, hpb⟩ : ∃ pb, pb = p.b := ⟨_, rfl⟩
  rw [hrv, ← hL] at x1
  rw [← hgc, ← hbg] at hcell
  rw [← hbg] at y1 hmL
  rw [← hph] at y2
  rw [← hgc, ← hph] at hrm
  rw [← hpb] at y1 y2 hf
  have HH := Lib.hid (⟨h, h0, hl, hi, hX, hn0, hnN, hc, hrv, hgr, hL, hgc, hbg, hph, hpb, hid, hk⟩ : _ ∧ _ ∧ _ ∧ _ ∧ _ ∧ _ ∧ _ ∧ _ ∧ _ ∧ _ ∧ _ ∧ _ ∧ _ ∧ _ ∧ _ ∧ _ ∧ _)
  clear h h0 hl hi hX hn0 hnN hc hrv hgr hL hgc hbg hph hpb hch hfh x0 y0 hid hk
  go_enter Try.func40, Try.ntmps40
  go_wp2_with fail
  refine hf.mono ?_
  rintro e w' ⟨rfl, hww⟩
  obtain rfl : w = w' := hww.symm
  clear hf
  go_wp2_with fail
  refine J.wp_region_seq (fun W => W.cell? ⟨g, 1, none⟩ = some (.slice (some ⟨gr, 0, none⟩) L cr) ∧ W.cell? ⟨gr, bg, none⟩ = some (.pointer (some ⟨gc, 0, none⟩)) ∧ W.cell? ⟨pb, 1, none⟩ = some (.int .i64 bg) ∧ W.cell? ⟨pb, 2, none⟩ = some (.int .i64 ph)) [(0, 0), (1, 0), (2, 0), (3, 0), (4, 0), (5, 0), (6, 0), (7, 0), (8, 0), (9, 0), (10, 0), (11, 0), (12, 0), (13, 0), (14, 1)] (by kernel_rfl) (by kernel_rfl) (by kernel_rfl) ⟨x1, hcell, y1, y2⟩ ?_
  iterate 14 (apply J.look (by rfl) (by rfl); (focus (intro W hW; obtain ⟨hW1, hW2, hW3, hW4⟩ := hW; go_simp; exact HasV.val rfl)); simp only [Act.put, List.setIfInBounds_toArray, List.set_cons_zero, List.set_cons_succ])
  refine J.final (fun u W => ChPost 95 54 undef gc c.mp c.X (A.map Vo.mem ++ B.map Vo.mem) c.n w.drew W) (by rfl) (by rfl) (by kernel_rfl) ?_ ?_
  · go_simp
    refine J.HasR.call (hrm.mono ?_)
    rintro e W2 ⟨rfl, hp⟩
    exact ⟨_, rfl, hp⟩
  rintro u W1 hch
  simp only [Act.put, List.setIfInBounds_toArray, List.set_cons_zero, List.set_cons_succ]
  refine J.fin ?_
  obtain ⟨h, h0, hl, hi, hX, hn0, hnN, hc, hrv, hgr, hL, hgc, hbg, hph, hpb, hid, hk⟩ := HH.out
  have hdr : Chg (fun _ => False) w w.drew := (Chg.refl _ w).drew
  rw [hgc] at hch
  obtain ⟨mp', col1, h1, hst1⟩ := (h0.keep hdr (fun _ _ f => f.elim)).chain hc hch
  obtain ⟨rest, hp1, hp2⟩ := flat_at hi
  have hnd := ((hp1.map Vo.id).nodup_iff).1 h.ids
  obtain ⟨w2, hrun, h2, hst2⟩ := (h1.perm hp1).del hnd 0
  have hfin : RemPost g bm tv rv T rows N col p w w2 := by
    have hq : (A ++ (B ++ rest)).Perm (rows.set p.bag (A ++ B)).flatten := by
      refine List.Perm.trans ?_ (hp2 _).symm
      simp
    refine ⟨A, B, col1, hi, ⟨⟨_, h2.perm hq, ?_⟩, bags_set h.bags (fun q hq => ?_), ?_, h.ris, h.tl, by rw [List.length_set]; exact h.len⟩, (Stp.trans ⟨hdr.mono (fun _ _ f => f.elim), fun _ _ => rfl⟩ hst1).trans hst2⟩
    · exact hl.set (Int.le_refl _) (by simp) ⟨hn0, hnN⟩
    · rcases List.mem_append.1 hq with hq | hq <;> exact h.bags _ _ hi q (by simp [hq])
    · refine ((hq.map _).nodup_iff).1 ?_
      refine List.Nodup.sublist ?_ hnd
      refine List.Sublist.map _ ?_
      exact (List.Sublist.refl A).append (List.sublist_cons_self p _)
  have HF := Lib.hid hfin
  obtain ⟨z0, z1, z2⟩ := read3 h1.cell
  rw [hid] at hrun
  clear h h0 hl hi hX hn0 hnN hc hrv hgr hL hgc hbg hph hpb hid hk hch h1 hst1 hp1 hp2 hnd h2 hst2 hfin hdr z0 z1 hrm x1 x2 hcell y1 y2
  go_wp2
  go_ret
  exact ⟨rfl, HF.out⟩
end
end Go.Proofs.Ythoagpagnldmeaa.V
