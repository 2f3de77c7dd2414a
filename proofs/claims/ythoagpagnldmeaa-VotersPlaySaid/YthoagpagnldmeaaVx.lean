/- Voters: going through the bags. -/
import Derived.Test.YthoagpagnldmeaaVw
import Derived.RangeFuncLeaves
set_option linter.unusedVariables false
set_option linter.unusedSimpArgs false
namespace Go.Proofs.Ythoagpagnldmeaa.V
open Go.RowKit Go.Ps
attribute [local go_sem] Oper.semAt_some
theorem leaves_inv {F : Fence} {n : Nat} {P : Program} {fn : Func} {tmps : Array Value} {R : Ending → World → Prop} (Inv : World → Prop) : ∀ (Ds : List Nat) (w : World), Ds.Nodup → (∀ D ∈ Ds, w.heap[D]? = some (.deferred (some []))) → Inv w →
    (∀ W D, Inv W → D ∈ Ds → W.heap[D]? = some (.deferred (some [])) → Inv (W.putObj D (.deferred none))) → (∀ w', Inv w' → LeavesInM F n P fn tmps R [] .returning w') →
    LeavesInM F n P fn tmps R (Ds.map fun D => { target := .collected D, args := #[] }) .returning w
  | [], w, _, _, h0, _, h => h w h0
  | D :: Ds, w, hn, hD, h0, hI, h => by
    obtain ⟨h1, h2⟩ := List.nodup_cons.1 hn
    refine ⟨by simp, .inl ⟨D, _, rfl, run_takeDeferred (hD D (by simp)), ?_⟩⟩
    refine leaves_inv Inv Ds _ h2 (fun E hE => ?_) (hI w D h0 (by simp) (hD D (by simp))) (fun W E a b c => hI W E a (by simp [b]) c) h
    rw [World.putObj_heap_other (show E ≠ D from fun e => h1 (by rw [← e]; exact hE))]
    exact hD E (by simp [hE])
/-- The bags that aren't empty, of the first n rows, the greatest first. -/
def bagsOf (rows : List (List Vo)) : Nat → List (Int × List Int)
  | 0 => []
  | n + 1 => (if rows.getD n [] = [] then [] else [((n : Int), (rows.getD n []).map (·.id))]) ++ bagsOf rows n
def fi (z : Int) : List Value := [.int .i64 z]
theorem layI : Lay fi 1 := ⟨fun x => rfl, fun x u hu => by simp [fi] at hu; subst hu; rfl, by omega⟩
abbrev Bag1 := Int × Value × List Int
def encC (x : Bag1) : Array Value := #[.int .i64 x.1, x.2.1]
def keyB (x : Bag1) : Int × List Int := (x.1, x.2.2)
/-- What Bags promises of its element. -/
def CB (B : Nat) (rows : List (List Vo)) (pre : List Bag1) (x : Bag1) (W : World) : Prop :=
  OwnF W 3 1 fi x.2.1 x.2.2 ∧ (∀ k, x.2.1.ownBlock = some k → ¬ Box B W k) ∧ (pre ++ [x]).map keyB <+: bagsOf rows rows.length
theorem layI2 : Lay (fun (x : Int × Int) => fi x.2) 1 := ⟨fun x => rfl, fun x u hu => by simp [fi] at hu; subst hu; rfl, by omega⟩
theorem OwnF.same {α : Type} {W W' : World} {e : TypeId} {sz : Nat} {f : α → List Value} {v : Value} {l : List α} (ho : OwnF W e sz f v l) (hs : ∀ k, v.ownBlock = some k → W'.heap[k]? = W.heap[k]?) : OwnF W' e sz f v l := by
  refine ⟨ho.1, ?_⟩
  rcases ho.2 with h2 | ⟨g, cap, cur, rfl, hbg, hg2, r⟩
  · exact .inl h2
  · exact .inr ⟨g, cap, cur, rfl, hbg, (hs g rfl).trans hg2, r⟩
theorem Own.same {W W' : World} {e : TypeId} {q : IntKind} {v : Value} {l : List Int} (ho : Go.Ps.Own W e q v l) (hs : ∀ k, v.ownBlock = some k → W'.heap[k]? = W.heap[k]?) : Go.Ps.Own W' e q v l := by
  refine ⟨ho.1, ?_⟩
  rcases ho.2 with h2 | ⟨g, cap, cur, rfl, hbg, hg2, r⟩
  · exact .inl h2
  · exact .inr ⟨g, cap, cur, rfl, hbg, (hs g rfl).trans hg2, r⟩
section
variable {W W' : World} {g bm : Nat} {tv rv : Value} {T : List Int} {rows : List (List Vo)} {N : Int} {col : Nat → Nat}
theorem VM0.same {cs : List Cst} {vs : List Vo} (h : VM0 W g bm tv rv T cs vs col) (hs : W.heap.size ≤ W'.heap.size) (hk : ∀ k, col k ≠ 0 → W'.heap[k]? = W.heap[k]?) : VM0 W' g bm tv rv T cs vs col := by
  refine ⟨?_, ?_, ?_, ?_, ?_, ?_, h.nb, h.c1, h.c2, h.c3, h.c4, h.c5, h.cc, fun k hk' => h.top k (Nat.le_trans hs hk')⟩
  · rw [hk g (by rw [h.c1]; decide)]; exact h.cell
  · exact Own.same h.thr (fun k e => hk k (by rw [h.c3 k e]; decide))
  · exact OwnF.same h.rows (fun k e => hk k (by rw [h.c4 k e]; decide))
  · intro i c hi
    exact (h.ch i c hi).same (fun k hm => hk k (by rw [h.cc i c hi k hm]; omega))
  · exact h.map.same (fun k e => by cases e; exact hk bm (by rw [h.c2]; decide))
  · intro p hp
    rw [hk p.b (by rw [h.c5 p hp]; decide)]
    exact h.vo p hp
theorem VM.same (h : VM W g bm tv rv T rows N col) (hs : W.heap.size ≤ W'.heap.size) (hk : ∀ k, col k ≠ 0 → W'.heap[k]? = W.heap[k]?) : VM W' g bm tv rv T rows N col := by
  obtain ⟨cs, h0, hl⟩ := h.ex
  exact ⟨⟨cs, h0.same hs hk, hl⟩, h.bags, h.ids, h.ris, h.tl, h.len⟩
theorem VM.top (h : VM W g bm tv rv T rows N col) {k : Nat} (hk : col k ≠ 0) : k < W.heap.size := by
  obtain ⟨cs, h0, hl⟩ := h.ex
  exact Nat.lt_of_not_le fun hle => hk (h0.top k hle)
/-- A block of the voters: there, of some kind. -/
theorem VM.safe (h : VM W g bm tv rv T rows N col) {n₀ M B k : Nat} (hk : col k ≠ 0) (hn : k < n₀) (hb : ¬ Box B W k) : Safe n₀ M B W k := by
  have hlt := h.top hk
  refine ⟨W.heap[k], Array.getElem?_eq_getElem hlt, ?_⟩
  cases W.heap[k].isCells with
  | true => exact .inl ⟨rfl, hb⟩
  | false => exact .inr ⟨rfl, .inl hn⟩
end
/-- What the loop over the bags keeps. -/
structure BI (n₀ M B cb g : Nat) (col : Nat → Nat) (rows : List (List Vo)) (J : List Bag1 → World → Prop) (W : World) (i : Int) (Ds : List Nat) (V : World) : Prop where
  i0 : -1 ≤ i ∧ i < rows.length
  ex : ∃ pre, J pre V ∧ pre.map keyB ++ bagsOf rows (i + 1).toNat = bagsOf rows rows.length
  same : ∀ k, (k = cb ∨ col k ≠ 0) → V.heap[k]? = W.heap[k]? ∧ Safe n₀ M B V k
  live : Live B V
  size : W.heap.size ≤ V.heap.size
  nd : Ds.Nodup
  ds : ∀ D ∈ Ds, W.heap.size ≤ D ∧ V.heap[D]? = some (.deferred (some []))
set_option maxRecDepth 20000 in
set_option maxHeartbeats 8000000 in
theorem bags_seq {n n₀ M B cb g bm : Nat} {tv rv : Value} {T : List Int} {rows : List (List Vo)} {N : Int} {col : Nat → Nat} {w : World} (hn : 2 ≤ n) (hcb : w.heap[cb]? = some (.cells #[.pointer (some ⟨g, 0, none⟩)] 64 (0, 0))) (hv : VM w g bm tv rv T rows N col) (hrl : ∀ l ∈ rows, l.length ≤ 1000)
    (hn₀ : ∀ k, col k ≠ 0 → k < n₀) (hB : Live B w) (hown : ∀ k, (k = cb ∨ col k ≠ 0) → ¬ Box B w k) :
    SeqO Fence.wide n Try.prog 90 #[.pointer (some ⟨cb, 0, none⟩)] encC (Kp n₀ M B) (CB B rows) (fun xs => xs.map keyB = bagsOf rows rows.length) (fun pre => pre.map keyB <+: bagsOf rows rows.length) (bagsOf rows rows.length).length M w := fun l J Jx W hW hM hJ hJx hY h0 => by
  have hcbW : W.heap[cb]? = some (.cells #[.pointer (some ⟨g, 0, none⟩)] 64 (0, 0)) := (hW.block cb (heap_lt hcb)).trans hcb
  have hsW : ∀ k, col k ≠ 0 → W.heap[k]? = w.heap[k]? := fun k hk => hW.block k (hv.top hk)
  have hvW : VM W g bm tv rv T rows N col := hv.same hW.size hsW
  have hBW : Live B W := hB.same hW.size (hW.block B hB.1)
  have hownW : ∀ k, (k = cb ∨ col k ≠ 0) → ¬ Box B W k := fun k hk hb => hown k hk (hb.same (hW.block B hB.1))
  have hc0 := cell_of hcbW 0 rfl
  obtain ⟨cs, hv0, hl⟩ := hvW.ex
  have hrl0 : 0 < rows.length := by rw [hvW.len]; omega
  have hcsl := hl.len
  obtain ⟨L, hL⟩ : ∃ L, L = rows.length := ⟨_, rfl⟩
  obtain ⟨gr, cr, hrv, hgr, hjk⟩ := hv0.row (i := 0) (c := cs[0]'(by rw [hcsl]; exact hrl0)) (List.getElem?_eq_getElem (by rw [hcsl]; exact hrl0))
  rw [hcsl, ← hL] at hrv
  have x1 := (read3 hvW.cell).2.1
  rw [hrv] at x1
  have hLb : L ≤ 101 := by rw [hL, hvW.len]; have := hvW.tl; omega
  have hL0 : 0 < L := by rw [hL]; exact hrl0
  have hI0 : BI n₀ M B cb g col rows J W ((L : Int) - 1) [] W := ⟨by omega, ⟨[], h0, by rw [show ((L : Int) - 1 + 1).toNat = rows.length by omega]; rfl⟩, fun k hk => ⟨rfl, by
    rcases hk with rfl | hk
    · exact ⟨_, hcbW, .inl ⟨rfl, hownW _ (.inl rfl)⟩⟩
    · exact hvW.safe hk (hn₀ k hk) (hownW k (.inr hk))⟩, hBW, Nat.le_refl _, List.nodup_nil, by simp⟩
  have HH := Lib.hid (⟨hcb, hv, hrl, hn₀, hB, hown, hW, hM, hJ, hJx, hY, h0, hcbW, hsW, hvW, hBW, hownW, hrv, hL, hI0⟩ : _ ∧ _ ∧ _ ∧ _ ∧ _ ∧ _ ∧ _ ∧ _ ∧ _ ∧ _ ∧ _ ∧ _ ∧ _ ∧ _ ∧ _ ∧ _ ∧ _ ∧ _ ∧ _ ∧ _)
  refine callsIn_of_wp_marks Try.func90 rfl trivial ?_ rfl
  simp only [Try.ntmps90, List.size_toArray, List.length_cons, List.length_nil, Nat.reduceAdd, Nat.reduceSub, Array.replicate_succ, Array.replicate_zero, List.push_toArray, List.append_toArray, List.nil_append, List.cons_append]
  clear hjk hcb hv hrl hn₀ hB hown hW hM hJ hJx hY h0 hcbW hsW hvW hBW hownW hv0 hl hrl0 hcsl hrv hL hI0 hgr
  gi_wp2_with fail
  refine wpIn_loop (fun a V => ∃ (i : Int) (Ds : List Nat) (u4 u15 u16 u17 u18 u19 u20 u21 u22 u23 u24 u25 u26 u33 u34 u35 u36 u37 u38 u39 u40 u41 u42 : Value), a = { tmps := #[.func (.yield l) #[] #[], .pointer (some ⟨cb, 0, none⟩), undef, .int .i64 i, u4, undef, undef, .pointer (some ⟨g, 0, none⟩), .bool false, .pointer (some ⟨g, 0, none⟩), .pointer (some ⟨g, 0, none⟩), .pointer (some ⟨g, 1, none⟩), .slice (some ⟨gr, 0, none⟩) L cr, .int .i64 L, .int .i64 ((L : Int) - 1), u15, u16, u17, u18, u19, u20, u21, u22, u23, u24, u25, u26, undef, undef, undef, undef, undef, undef, u33, u34, u35, u36, u37, u38, u39, u40, u41, u42], defers := Ds.map fun D => { target := .collected D, args := #[] } } ∧ Hid (BI n₀ M B cb g col rows J W i Ds V)) (fun a V => (intOf (a.tmps.getD 3 undef) + 1).toNat) ?start ?round
  case start => exact ⟨_, [], _, _, _, _, _, _, _, _, _, _, _, _, _, _, _, _, _, _, _, _, _, _, _, rfl, Lib.hid HH.out.2.2.2.2.2.2.2.2.2.2.2.2.2.2.2.2.2.2.2⟩
  case round =>
    rintro a V ⟨i, Ds, u4, u15, u16, u17, u18, u19, u20, u21, u22, u23, u24, u25, u26, u33, u34, u35, u36, u37, u38, u39, u40, u41, u42, rfl, HI⟩
    obtain ⟨hi0, ⟨pre, hJp, hpre⟩, hsame, hlive, hsize, hnd, hds⟩ := HI.out
    obtain ⟨hcb, hv, hrl, hn₀, hB, hown, hW, hM, hJ, hJx, hY, h0, hcbW, hsW, hvW, hBW, hownW, hrv, hL, hI0⟩ := HH.out
    by_cases hi : 0 ≤ i
    · obtain ⟨k, rfl⟩ : ∃ k : Nat, i = k := ⟨i.toNat, by omega⟩
      have hkL : k < L := by omega
      have hkr : k < rows.length := by omega
      obtain ⟨lr, hlr⟩ : ∃ lr, rows[k]? = some lr := ⟨_, List.getElem?_eq_getElem hkr⟩
      have hlrm : lr ∈ rows := List.mem_of_getElem? hlr
      have hlr1 := hrl lr hlrm
      have hvV : VM V g bm tv rv T rows N col := hvW.same hsize (fun k hk => (hsame k (.inr hk)).1)
      obtain ⟨cs, hv0, hl⟩ := hvV.ex
      obtain ⟨c, hc, hX, _, _⟩ := hl.get hlr
      obtain ⟨gr', cr', hrv', hgr, hcell⟩ := hv0.row hc
      rw [hrv] at hrv'
      simp only [Value.slice.injEq, Option.some.injEq, Addr.mk.injEq, and_true] at hrv'
      obtain ⟨rfl, -⟩ := hrv'
      have hcbV : V.heap[cb]? = some (.cells #[.pointer (some ⟨g, 0, none⟩)] 64 (0, 0)) := (hsame cb (.inl rfl)).1.trans hcbW
      obtain ⟨gc, hgc⟩ : ∃ gc, gc = c.g := ⟨_, rfl⟩
      obtain ⟨V1, hV1⟩ : ∃ V1, V1 = V.alloc (.cells #[.slice none 0 0] 82) := ⟨_, rfl⟩
      obtain ⟨V2, hV2⟩ : ∃ V2, V2 = V1.alloc (.cells #[.pointer (some ⟨gc, 0, none⟩)] 23) := ⟨_, rfl⟩
      obtain ⟨bx, hbx⟩ : ∃ bx, bx = V.heap.size := ⟨_, rfl⟩
      have hsz1 : V1.heap.size = bx + 1 := by rw [hV1, hbx]; simp
      have hsz2 : V2.heap.size = bx + 2 := by rw [hV2]; simp [hsz1]
      have hC1 : Chg (fun _ => False) V V1 := by rw [hV1]; exact (Chg.refl _ V).alloc _
      have hC2 : Chg (fun _ => False) V V2 := by rw [hV2]; exact hC1.alloc _
      have hb1 : V1.heap[bx]? = some (.cells #[.slice none 0 0] 82 (0, 0)) := by rw [hV1, hbx]; exact heap_alloc_at _ _
      have hb2 : V2.heap[bx]? = some (.cells #[.slice none 0 0] 82 (0, 0)) := by rw [hV2]; exact heap_alloc_ne hb1
      have hcb2 : V2.heap[bx + 1]? = some (.cells #[.pointer (some ⟨gc, 0, none⟩)] 23 (0, 0)) := by rw [hV2, ← hsz1]; exact heap_alloc_at _ _
      obtain ⟨IL, hIL⟩ : ∃ IL : List (Int × Int), IL = lr.map (fun p => (p.h, p.id)) := ⟨_, rfl⟩
      have hNm : Nm c.X IL := by rw [hX, hIL]; unfold Nm; simp [Vo.mem, Function.comp_def]
      have hILl : IL.length = lr.length := by rw [hIL, List.length_map]
      have hXl : c.X.length ≤ 1000000 := by rw [hX, List.length_map]; omega
      have hchV : ChW 95 54 V gc c.mp c.X c.n := by rw [hgc]; exact hv0.ch k c hc
      have hch2 : ChW 95 54 V2 gc c.mp c.X c.n := hchV.keep hC2 (fun _ _ => id)
      have hmlt : ∀ j, Mine gc c.mp c.X j → j < bx := fun j hj => by rw [hbx]; exact hchV.lt hj
      have hst := all_stops (n - 1) bx bx (bx + 1) gc c.mp c.X c.n IL V2 hcb2 hch2 hXl hNm hmlt (by omega) (fun v j h2 h3 => by rw [cell_of hb2 0 rfl] at h2; cases h2; cases h3) (fun j hj ho => by
        obtain ⟨_, ho⟩ := ho
        rcases ho with e | ⟨v, h2, h3⟩
        · rcases hj with hj | hj
          · omega
          · have := hmlt j hj; omega
        · rw [cell_of hb2 0 rfl] at h2
          cases h2
          cases h3)
      have hcoll : Coll (α := Int × Int) 82 3 1 (fun x => fi x.2) bx V [] V2 := ⟨_, hb2, OwnF.nil _ _ _ _, (fun j hj => by cases hj), by rw [hV2, hV1]; exact ((Below.refl _ V).alloc (Nat.le_refl _) _).alloc (by simp) _, by omega⟩
      have z0 := cell_of hcbV 0 rfl
      have z1 : V1.cell? ⟨cb, 0, none⟩ = some (.pointer (some ⟨g, 0, none⟩)) := cell_of (chg_heap0 hC1 hcbV) 0 rfl
      have z2 : V1.cell? ⟨g, 1, none⟩ = some (.slice (some ⟨gr, 0, none⟩) L cr) := by have := cell_of (chg_heap0 hC1 hvV.cell) 1 rfl; rw [this, ← hrv]; rfl
      have z3 : V1.cell? ⟨gr, k, none⟩ = some (.pointer (some ⟨gc, 0, none⟩)) := by rw [hgc]; exact chg_cell hC1 hcell id
      have HG := Lib.hid (⟨hi0, hJp, hpre, hsame, hlive, hsize, hnd, hds, hlr, hlrm, hlr1, hvV, hC2, hIL, hILl, hsz1, hsz2, hcoll⟩ : _ ∧ _ ∧ _ ∧ _ ∧ _ ∧ _ ∧ _ ∧ _ ∧ _ ∧ _ ∧ _ ∧ _ ∧ _ ∧ _ ∧ _ ∧ _ ∧ _ ∧ _)
      have HST := Lib.hid hst
      have HV1 := Lib.hid hV1
      have HV2 := Lib.hid hV2
      have HBX := Lib.hid hbx
      clear hi0 hJp hpre hsame hlive hsize hnd hds hcb hv hrl hn₀ hB hown hW hM hJ hJx hY h0 hcbW hsW hvW hBW hownW hrv hL hI0 hi hkr hlr hlrm hlr1 hvV hv0 hl hc hX hgr hcell hcbV hsz1 hsz2 hC1 hC2 hb1 hb2 hcb2 hIL hNm hILl hXl hchV hch2 hmlt hst hcoll hgc x1 hc0
      rw [hV1] at z1 z2 z3
      clear hV1 hV2 hbx
      gi_wp2_with fail
      refine ⟨trivial, (fun h => by cases h), (callsIn_wide.2 (all_any _ _)).mono ?_⟩
      rintro e w' ⟨rfl, rfl⟩
      clear z0 z1 z2 z3
      gi_wp2_with fail
      rw [← HV1.out, ← HV2.out, ← HBX.out]
      have HKB := Lib.hid (kept_b (n₀ := bx) (B := bx) (w := V2) (by have := HG.out; omega) (by have := HG.out; omega))
      have HOF := Lib.hid (Coll.ownFrom (α := Int × Int) (ts := 82) (te := 3) (sz := 1) (f := fun x => fi x.2) (B := bx) (Bl := V2.heap.size) (w0 := V) (by have := HBX.out; have := HG.out; omega))
      refine wpIn_rangeFunc_ownF rfl (by omega) (gf := 85) (lb := #[.pointer (some ⟨bx + 1, 0, none⟩)]) rfl trivial (enters_of Try.func85 (by kernel_rfl) rfl)
        HST.out (fun h k => Kept.trans h k) HKB.out (Below.refl _ _) (fun _ => rfl)
        (fun pre W => Coll (α := Int × Int) 82 3 1 (fun x => fi x.2) bx V pre W) (fun _ _ _ => False) HOF.out (fun _ _ _ _ _ hs _ _ => hs) HG.out.2.2.2.2.2.2.2.2.2.2.2.2.2.2.2.2.2 ?a1 ?assign ?body ?done ?stop
      case assign =>
        intro l x W K hK
        simp only [encs]
        gi_wp2
        exact hK
      case body =>
        rintro l pre x W hc hlt
        obtain ⟨_, _, _, _, _, _, _, _, _, _, hlr1, _, _, _, hILl, hsz1, hsz2, _⟩ := HG.out
        obtain ⟨A, m, c, A', c', w2, hm, hb, hrun, hb2, hb3, hko, hkp, hc3⟩ := hc.push bx layI2 Try.underlying82 info3 rfl x (by omega) (by omega)
        have hle : (m : Int) + 1 ≤ 1000 := by omega
        have r0 := cell_of hb 0 rfl
        have r1 := cell_of hb2 0 rfl
        have r2 := frz hb2
        have r3 := cell_of hb3 0 rfl
        have HF := Lib.hid (⟨hko, hkp, hc3⟩ : _ ∧ _ ∧ _)
        clear hc hlt hm hb hb2 hb3 hko hkp hc3 hlr1 hILl hsz1 hsz2
        simp only [fi] at hrun
        gi_wp2_with (gi_at_builtin; refine wpListIn_append_run rfl _ _ 82 rfl _ _ _ _ rfl rfl hrun ?_)
        exact HF.out
      case stop =>
        rintro D c pre W _ _ h _
        exact h.elim
      case done =>
        rintro D ys Wx hD hys hcl hKD
        rw [hys] at hcl
        clear hys
        obtain ⟨hi0, hJp, hpre, hsame, hlive, hsize, hnd, hds, hlr, hlrm, hlr1, hvV, hC2, hIL, hILl, hsz1, hsz2, hcoll⟩ := HG.out
        obtain ⟨hcb, hv, hrl, hn₀, hB, hown, hW, hM, hJ, hJx, hY, h0, hcbW, hsW, hvW, hBW, hownW, hrv, hL, hI0⟩ := HH.out
        have hbx := HBX.out
        obtain ⟨v, hb, ho, hvk, hbl, hBb⟩ := hcl
        have hCx : Chg (fun _ => False) V Wx := Chg.ofBelow hbl
        have hJx1 : J pre Wx := hJ pre V Wx none hJp (grownBy_of_chg hCx) (fun r e => by cases e)
        have hsamex : ∀ k, (k = cb ∨ col k ≠ 0) → Wx.heap[k]? = W.heap[k]? ∧ Safe n₀ M B Wx k := fun k hk => by
          obtain ⟨h1, h2⟩ := hsame k hk
          obtain ⟨h3, h4⟩ := h2.calm hlive hCx
          exact ⟨h3.trans h1, h4⟩
        have hlivex := hlive.calm hCx
        have hndx : (D :: Ds).Nodup := List.nodup_cons.2 ⟨fun hm => by have := heap_lt (hds D hm).2; omega, hnd⟩
        have hdsx : ∀ E ∈ D :: Ds, W.heap.size ≤ E ∧ Wx.heap[E]? = some (.deferred (some [])) ∧ Safe n₀ M B Wx E := fun E hE => by
          rcases List.mem_cons.1 hE with rfl | hE
          · exact ⟨by omega, hKD, Safe.new hlive hCx (by omega) hKD (.inr (by omega))⟩
          · obtain ⟨h1, h2⟩ := hds E hE
            have h3 := chg_heap0 hCx h2
            exact ⟨h1, h3, _, h3, .inr ⟨rfl, .inr (by omega)⟩⟩
        obtain ⟨ids, hids⟩ : ∃ ids, ids = lr.map (·.id) := ⟨_, rfl⟩
        have hoI : OwnF Wx 3 1 fi v ids := by
          have e : ids = IL.map (·.2) := by rw [hids, hIL, List.map_map]; rfl
          rw [e]
          unfold OwnF at ho ⊢
          rw [List.length_map, List.flatMap_map]
          exact ho
        obtain ⟨A, cc, hvv, _, _, _, _⟩ := hoI.form
        obtain ⟨m, hm⟩ : ∃ m, m = ids.length := ⟨_, rfl⟩
        rw [← hm] at hvv
        have r0 := cell_of hb 0 rfl
        rw [hvv] at r0
        have hgD : rows.getD k [] = lr := by rw [List.getD_eq_getElem?_getD, hlr]; rfl
        have hbagk : bagsOf rows ((k : Int) + 1).toNat = (if lr = [] then [] else [((k : Int), lr.map (·.id))]) ++ bagsOf rows k := by
          rw [show ((k : Int) + 1).toNat = k + 1 by omega]
          show (if rows.getD k [] = [] then [] else [((k : Int), (rows.getD k []).map (·.id))]) ++ bagsOf rows k = _
          rw [hgD]
        rw [hbagk] at hpre
        have hmt : (((k : Int) - 1) + 1).toNat = k := by omega
        by_cases hm0 : m = 0
        · have hlr0 : lr = [] := by
            have : lr.length = 0 := by rw [← hm0, hm, hids, List.length_map]
            exact List.eq_nil_of_length_eq_zero this
          rw [if_pos hlr0, List.nil_append] at hpre
          have hBI : BI n₀ M B cb g col rows J W ((k : Int) - 1) (D :: Ds) Wx := ⟨by omega, ⟨pre, hJx1, by rw [hmt]; exact hpre⟩, hsamex, hlivex, Nat.le_trans hsize hCx.size, hndx, fun E hE => ⟨(hdsx E hE).1, (hdsx E hE).2.1⟩⟩
          have HBI := Lib.hid hBI
          subst hm0
          clear hi0 hJp hpre hsame hlive hsize hnd hds hlr hlrm hlr1 hvV hC2 hIL hILl hsz1 hsz2 hcoll hcb hv hrl hn₀ hB hown hW hM hJ hJx hY h0 hcbW hsW hvW hBW hownW hrv hL hI0 hb ho hvk hbl hBb hCx hJx1 hsamex hlivex hndx hdsx hids hoI hvv hm hgD hbagk hmt hlr0 hBI hbx hD hKD
          gi_wp2
          refine ⟨(fun _ h => by cases h), ?_⟩
          gi_wp2
          refine ⟨⟨(k : Int) - 1, D :: Ds, _, _, _, _, _, _, _, _, _, _, _, _, _, _, _, _, _, _, _, _, _, _, _, rfl, HBI⟩, ?_⟩
          show (((k : Int) - 1) + 1).toNat < ((k : Int) + 1).toNat
          omega
        · have hlr0 : lr ≠ [] := by
            intro e
            rw [hm, hids, e] at hm0
            simp at hm0
          rw [if_neg hlr0, ← hids] at hpre
          obtain ⟨x, hx⟩ : ∃ x : Bag1, x = ((k : Int), Value.slice A m cc, ids) := ⟨_, rfl⟩
          have hpre' : (pre ++ [x]).map keyB ++ bagsOf rows k = bagsOf rows rows.length := by
            rw [← hpre, hx]
            simp [keyB]
          have hCB : CB B rows pre x Wx := by
            refine ⟨by rw [hx, ← hvv]; exact hoI, fun j hj hbj => ?_, ⟨_, hpre'⟩⟩
            rw [hx] at hj
            have h1 := hvk j (by rw [hvv]; exact hj)
            have h2 := hlive.2 j (hbj.same (hCx.block B hlive.1 id))
            omega
          have hlt : pre.length < (bagsOf rows rows.length).length := by
            rw [← hpre']
            simp
          obtain ⟨fn, tmps, assign, body, hy, hR⟩ := hY pre x Wx hJx1 hlt hCB
          rw [hx] at hy
          dsimp only [encC] at hy
          have hm1 : 0 < m := by omega
          have HF := Lib.hid (⟨hsamex, hlivex, hndx, hdsx, hpre', hmt, Nat.le_trans hsize hCx.size, hJx, hM, hJ, hi0⟩ : _ ∧ _ ∧ _ ∧ _ ∧ _ ∧ _ ∧ _ ∧ _ ∧ _ ∧ _ ∧ _)
          have HX := Lib.hid hx
          clear hi0 hJp hpre hsame hlive hsize hnd hds hlr hlrm hlr1 hvV hC2 hIL hILl hsz1 hsz2 hcoll hcb hv hrl hn₀ hB hown hW hM hJ hJx hY h0 hcbW hsW hvW hBW hownW hrv hL hI0 hb ho hvk hbl hBb hCx hJx1 hsamex hlivex hndx hdsx hids hoI hvv hm hgD hbagk hmt hlr0 hbx hD hKD hm0 hpre' hCB hlt hx
          gi_wp2
          refine ⟨(fun h => by cases h), hR.mono ?_⟩
          rintro e W3 (⟨rfl, hJ3, hk3⟩ | ⟨rfl, hJx3, hkf⟩)
          · obtain ⟨hsamex, hlivex, hndx, hdsx, hpre', hmt, hszx, hJx, hM, hJ, hi0⟩ := HF.out
            have HBI := Lib.hid (show BI n₀ M B cb g col rows J W ((k : Int) - 1) (D :: Ds) W3 from ⟨by omega, ⟨pre ++ [x], hJ3, by rw [hmt]; exact hpre'⟩, fun j hj => by
                obtain ⟨h1, h2⟩ := hsamex j hj
                obtain ⟨h3, h4⟩ := h2.kp hk3
                exact ⟨h3.trans h1, h4⟩, hlivex.kp hk3, Nat.le_trans hszx hk3.size, hndx, fun E hE => by
                obtain ⟨h1, h2, h3⟩ := hdsx E hE
                exact ⟨h1, (h3.kp hk3).1.trans h2⟩⟩)
            clear hsamex hlivex hndx hdsx hpre' hmt hszx hJx hM hJ hi0 hJ3 hk3 hy hR HF
            gi_wp2
            refine ⟨⟨(k : Int) - 1, D :: Ds, _, _, _, _, _, _, _, _, _, _, _, _, _, _, _, _, _, _, _, _, _, _, _, rfl, HBI⟩, ?_⟩
            show (((k : Int) - 1) + 1).toNat < ((k : Int) + 1).toNat
            omega
          · clear hy hR
            have HJ3 := Lib.hid (⟨hJx3, hkf⟩ : _ ∧ _)
            clear hJx3 hkf
            gi_wp2
            obtain ⟨hsamex, hlivex, hndx, hdsx, hpre', hmt, hszx, hJx, hM, hJ, hi0⟩ := HF.out
            obtain ⟨hJx3, hkf⟩ := HJ3.out
            refine leaves_inv (Jx (pre ++ [x])) (D :: Ds) W3 hndx (fun E hE => ?_) hJx3 (fun V' E h hE hd => hJx.putObj _ h (hdsx E hE).1 hd rfl) (fun w' h => ?_)
            · obtain ⟨h1, h2, h3⟩ := hdsx E hE
              exact hkf.same E _ (by omega) h2 rfl
            · exact ⟨_, results_none rfl _ _ _, ⟨_, rfl⟩, .inr ⟨_, ⟨_, hpre'⟩, h⟩⟩
    · have hie : i = -1 := by omega
      subst hie
      have hall : pre.map keyB = bagsOf rows rows.length := by rw [← hpre]; simp [bagsOf]
      have HF := Lib.hid (⟨hJp, hJ, hnd, hds, hall⟩ : _ ∧ _ ∧ _ ∧ _ ∧ _)
      clear hi0 hJp hpre hsame hlive hsize hnd hds hcb hv hrl hn₀ hB hown hW hM hJ hJx hY h0 hcbW hsW hvW hBW hownW hrv hL hI0 hi hall
      gi_wp2
      obtain ⟨hJp, hJ, hnd, hds, hall⟩ := HF.out
      refine leaves_inv (J pre) Ds V hnd (fun D hD => (hds D hD).2) hJp (fun V' D h hD hd => hJ.putObj _ h (hds D hD).1 hd rfl) (fun w' h => ?_)
      exact ⟨_, results_none rfl _ _ _, ⟨_, rfl⟩, .inl ⟨pre, hall, h⟩⟩
end Go.Proofs.Ythoagpagnldmeaa.V
