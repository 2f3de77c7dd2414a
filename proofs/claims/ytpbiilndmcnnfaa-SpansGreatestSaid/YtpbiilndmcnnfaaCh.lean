/- Spans: Charge. -/
import Derived.Test.YtpbiilndmcnnfaaSp
import Derived.Deep.LoopGhost
set_option linter.unusedVariables false
set_option linter.unusedSimpArgs false
namespace Go.Proofs.Ytpbiilndmcnnfaa
open Go.RowKit Go.Ps

def pad (n : Nat) (l : List Int) : List Int := l ++ List.replicate (n - l.length) 0
def mxI (a b : Int) : Int := if a < b then b else a
/-- The charges behind Charge, and by how much its span's rose. -/
def chargeAfter (ends charges : List Int) (era amount : Int) : List Int := if era < 0 then charges else (pad (ends.length + 1) charges).set (posOf ends era) (mxI ((pad (ends.length + 1) charges).getD (posOf ends era) 0) amount)
def chargeRose (ends charges : List Int) (era amount : Int) : Int := if era < 0 then 0 else mxI ((pad (ends.length + 1) charges).getD (posOf ends era) 0) amount - (pad (ends.length + 1) charges).getD (posOf ends era) 0
def chargeCode (era : Int) : Int := if era < 0 then 1 else 0
def ChargePost (b : Nat) (v1 v2 : Value) (ends charges : List Int) (era amount : Int) (w : World) (e : Ending) (w' : World) : Prop :=
  ∃ v2', e = .returned (.tuple #[.int .u64 (chargeRose ends charges era amount), .int .i64 (chargeCode era)]) ∧ SRep w' b v1 v2' ends (chargeAfter ends charges era amount) ∧ Chg (Foot b v1 v2) w w' ∧ (∀ k, v2'.ownBlock = some k → v2.ownBlock = some k ∨ w.heap.size ≤ k)
def U64 (x : Int) : Prop := 0 ≤ x ∧ x ≤ 18446744073709551615

/-- Behind 's.charges = append(s.charges, 0)'. -/
theorem grow_charges {w W : World} {b : Nat} {v1 v2 : Value} {ends cs : List Int} (h : SRep w b v1 v2 ends cs) (hW : Chg (fun _ => False) w W) (hl : cs.length < ends.length + 1) (v' : Value) (w2 : World)
    (ho : w2.ownsRow 0 32 1 v' (cs.length + 1) (cs.map (Value.int .u64) ++ [.int .u64 0])) (hg : (W.alloc (.cells #[.int .u64 0] 32)).grownBy w2 v2.ownBlock) (hat : v'.ownBlock = v2.ownBlock ∨ v'.ownBlock = some (W.alloc (.cells #[.int .u64 0] 32)).heap.size) :
    ∃ A' c', v' = .slice A' (cs.length + 1) c' ∧ w2.cell? ⟨b, 1, none⟩ = some v2 ∧ w2.frozen? ⟨b, 1, none⟩ = false ∧ SRep (w2.setCell ⟨b, 1, none⟩ v') b v1 v' ends (cs ++ [0]) ∧ Chg (Foot b v1 v2) w (w2.setCell ⟨b, 1, none⟩ v') ∧ (∀ k, v'.ownBlock = some k → v2.ownBlock = some k ∨ w.heap.size ≤ k) := by
  have hcg : Chg (Foot b v1 v2) w w2 := ((hW.mono (fun _ _ h => absurd h id)).alloc _).grown hg (fun k hk _ => Or.inr (Or.inr hk))
  have hbW : W.heap[b]? = some (.cells #[v1, v2] 31 (0, 0)) := (hW.block b (heap_lt h.hb) id).trans h.hb
  have hblk : w2.heap[b]? = some (.cells #[v1, v2] 31 (0, 0)) := by
    rw [hg.block b (by have := heap_lt hbW; simp; omega) (fun e => h.n2 e.symm), Below.heap_alloc W _ _ (heap_lt hbW)]
    exact hbW
  have hb2 : ∀ k, v'.ownBlock = some k → v2.ownBlock = some k ∨ w.heap.size ≤ k := fun k hk => by
    rcases hat with hat | hat
    · exact Or.inl (hat ▸ hk)
    · rw [hat] at hk
      cases hk
      exact Or.inr (Nat.le_of_lt (by rw [World.size_alloc]; exact Nat.lt_succ_of_le hW.size))
  have ho' : Own w2 32 .u64 v' (cs ++ [0]) := Own.grown (xs := [0]) ho
  obtain ⟨A', c', hv', _, _, _⟩ := ho'.form
  rw [List.length_append, List.length_singleton] at hv'
  have hbn : v'.ownBlock ≠ some b := fun hk => by
    rcases hb2 b hk with h1 | h1
    · exact h.n2 h1
    · have := heap_lt h.hb; omega
  have hset : Chg (fun k => k = b) w2 (w2.setCell ⟨b, 1, none⟩ v') := (Chg.refl (fun k => k = b) w2).setCell (fun _ => rfl) _
  have hoc : Own w2 3 .i64 v1 ends := (h.h1.chg (hW.alloc (.cells #[.int .u64 0] 32)) (fun _ _ => id)).chg (((Chg.refl (fun k => v2.ownBlock = some k) _)).grown hg (fun k hk _ => hk)) (fun k hk hk1 => h.n3 k hk hk1)
  refine ⟨A', c', hv', cell_of hblk 1 rfl, frozen_of hblk 1, ⟨?_, hoc.chg hset (fun k hk e => h.n1 (e ▸ hk)), ho'.chg hset (fun k hk e => hbn (e ▸ hk)), h.n1, hbn, fun k hk hk2 => ?_, h.up, h.l1, by simp; omega⟩, hcg.setCell (fun _ => Or.inl rfl) _, hb2⟩
  · rw [heap_setCell hblk]
    rfl
  · rcases hb2 k hk2 with h1 | h1
    · exact h.n3 k hk h1
    · have := h.h1.lt hk; omega

theorem charge_any (era amount : Int) (w : World) (b : Nat) (v1 v2 : Value) (ends charges : List Int) (h : SRep w b v1 v2 ends charges) (hroom : ends.length < 1000000) (hu : ∀ x ∈ charges, U64 x) (ha : U64 amount) :
    Calls Try.prog 9 #[.pointer (some ⟨b, 0, none⟩), .int .i64 era, .int .u64 amount] w (ChargePost b v1 v2 ends charges era amount w) := by
  by_cases h0 : era < 0
  · have fin : ChargePost b v1 v2 ends charges era amount w (.returned (.tuple #[.int .u64 0, .int .i64 1])) w := by
      refine ⟨v2, by simp [chargeRose, chargeCode, h0], by simp only [chargeAfter, h0, if_true]; exact h, Chg.refl _ _, fun k hk => Or.inl hk⟩
    clear hu ha h
    go_enter Try.func9, Try.ntmps9
    go_wp2
    go_ret2
    exact fin
  · obtain ⟨i0, hi, hz0, hz1, hz2⟩ := info_parts info32
    have huB := Lib.hid hu
    have haB := Lib.hid ha
    clear hu ha
    go_enter Try.func9, Try.ntmps9
    go_wp2
    go_loopg [16] (ends.length + 1 - charges.length) (fun gk v16 wr => ∃ v2', gk ≤ ends.length + 1 - charges.length ∧ SRep wr b v1 v2' ends (charges ++ List.replicate (ends.length + 1 - charges.length - gk) 0) ∧ Chg (Foot b v1 v2) w wr ∧ (∀ k, v2'.ownBlock = some k → v2.ownBlock = some k ∨ w.heap.size ≤ k))
    case atStart => exact ⟨v2, Nat.le_refl _, by simpa using h, Chg.refl _ _, fun k hk => Or.inl hk⟩
    case round =>
      obtain ⟨v2', hgk, hS, hc, hk2⟩ := hrel
      have hcl := h.l2
      cases gk with
      | succ gk =>
        obtain ⟨cs, hcs⟩ : ∃ cs, cs = charges ++ List.replicate (ends.length + 1 - charges.length - (gk + 1)) 0 := ⟨_, rfl⟩
        rw [← hcs] at hS
        have hcsl : cs.length = ends.length - gk := by rw [hcs]; simp; omega
        have hcs2 : charges ++ List.replicate (ends.length + 1 - charges.length - gk) 0 = cs ++ [0] := by
          rw [hcs, List.append_assoc, ← List.replicate_succ']
          congr 2
          omega
        have hSd : SRep wr.drew b v1 v2' ends cs := hS.chg ((Chg.refl (fun _ => False) wr).drew) (fun _ _ => id)
        have c1d := hSd.c1
        have hlen := len_any wr.drew b v1 v2' ends cs hSd
        obtain ⟨A, c, hv2, _, _, _⟩ := hSd.h2.form
        rw [hv2] at c1d
        have hown0 : wr.drew.ownsRow 0 32 1 (.slice A cs.length c) cs.length (cs.map (Value.int .u64)) := by rw [← hv2]; exact hSd.h2
        have behind := grow_charges hS ((Chg.refl (fun _ => False) wr).drew) (by omega)
        rw [hv2] at behind
        have hmax : cs.length + 1 ≤ maxLen := by unfold maxLen; omega
        have hby : (cs.length + 1) * 8 ≤ 140737488355328 := by omega
        have hlt : (cs.length : Int) < ends.length + 1 := by omega
        have fin : Hid (∀ v' w3, SRep w3 b v1 v' ends (cs ++ [0]) → Chg (Foot b v1 v2') wr w3 → (∀ k, v'.ownBlock = some k → v2'.ownBlock = some k ∨ wr.heap.size ≤ k) → ∃ v2', gk ≤ ends.length + 1 - charges.length ∧ SRep w3 b v1 v2' ends (charges ++ List.replicate (ends.length + 1 - charges.length - gk) 0) ∧ Chg (Foot b v1 v2) w w3 ∧ (∀ k, v2'.ownBlock = some k → v2.ownBlock = some k ∨ w.heap.size ≤ k)) := by
          refine Lib.hid fun v' w3 hs3 hc3 hk3 => ⟨v', by omega, by rw [hcs2]; exact hs3, hc.trans hc3 (fun j hj hf => ?_), fun k hk => ?_⟩
          · rcases hf with hf | hf | hf
            · exact Or.inl hf
            · exact Or.inr (Or.inl hf)
            · rcases hk2 j hf with h1 | h1
              · exact Or.inr (Or.inr h1)
              · omega
          · rcases hk3 k hk with h1 | h1
            · exact hk2 k h1
            · exact Or.inr (Nat.le_trans hc.size h1)
        rw [hv2] at fin
        have HK := Lib.hid hgk
        clear hcs hcs2 hcsl hS hSd hc hk2 hgk hcl huB haB hroom h
        go_wp2
        go_region_held (fun w' => w'.cell? ⟨b, 1, none⟩ = some (.slice A cs.length c)) (first | exact c1d | go_keep) (first | (go_at_call 15; refine hlen.mono ?_; rintro e w' ⟨rfl, rfl⟩))
        all_goals
          go_wp2_with (at_builtin; refine wpList_append_own_at _ rfl _ _ 29 rfl 0 32 i0 (.int .u64 0) 1 8 Try.underlying29 hi hz0 hz1 hz2 rfl (by decide) _ _ _ rfl (hown0.alloc _) ⟨wr.drew.heap.size, 0, none⟩ 1 1 [.int .u64 0] rfl rfl (cell_one_new _ _ _) (ints_oneCell .u64 [0]) hmax hby (by simp) ?_; intro v' w2 ho hg hnil hat; obtain ⟨A', c', hv', f0, f1, hs3, hc3, hk3⟩ := behind v' w2 ho hg hat; clear ho hg hat hnil behind; rw [hv'] at hs3 hc3 hk3 ⊢)
          go_roundg gk
          case measure => omega
          case rel => exact fin.out _ _ hs3 hc3 hk3
      | zero =>
        obtain ⟨cs, hcs⟩ : ∃ cs, cs = charges ++ List.replicate (ends.length + 1 - charges.length - 0) 0 := ⟨_, rfl⟩
        rw [← hcs] at hS
        have hcsl : cs.length = ends.length + 1 := by rw [hcs]; simp; omega
        have hpad : pad (ends.length + 1) charges = cs := by rw [hcs]; rfl
        have hSd : SRep wr.drew b v1 v2' ends cs := hS.chg ((Chg.refl (fun _ => False) wr).drew) (fun _ _ => id)
        have c1d := hSd.c1
        have hlen := len_any wr.drew b v1 v2' ends cs hSd
        have hsp := span_c era hSd
        obtain ⟨n, hn⟩ : ∃ n, n = posOf ends era := ⟨_, rfl⟩
        rw [← hn] at hsp
        have hnl : n < cs.length := by rw [hn, hcsl]; have := posOf_le ends era; omega
        obtain ⟨g, c, cur, hv2, hob, hgg, hcur⟩ := hSd.h2.at_ (by omega)
        obtain ⟨was, hwas⟩ : ∃ was, was = cs.getD n 0 := ⟨_, rfl⟩
        have cw : wr.drew.cell? ⟨g, n, none⟩ = some (.int .u64 was) := by rw [hwas]; exact cell_of hgg n (hcur n hnl)
        have fzw : wr.drew.frozen? ⟨g, n, none⟩ = false := frozen_of hgg n
        rw [hv2] at c1d
        have hwu : U64 was := by
          rw [hwas, hcs, List.getD_eq_getElem?_getD, List.getElem?_append]
          split
          · rename_i h1
            rw [List.getElem?_eq_getElem h1]
            exact huB.out _ (List.getElem_mem h1)
          · rw [List.getElem?_replicate]
            split <;> exact ⟨by simp, by simp⟩
        have hgb : g ≠ b := fun e => hSd.n2 (by rw [hob, e])
        have fin : Hid (∀ x, x = mxI was amount → ∀ y, y = mxI was amount - was → ChargePost b v1 v2 ends charges era amount w (.returned (.tuple #[.int .u64 y, .int .i64 0])) (wr.setCell ⟨g, n, none⟩ (.int .u64 x)).drew) := by
          refine Lib.hid fun x hx y hy => ⟨v2', ?_, ?_, ?_, ?_⟩
          · rw [hy, chargeRose, if_neg (by omega), hpad, ← hn, ← hwas, chargeCode, if_neg (by omega)]
          · have hst : Chg (fun k => k = g) wr.drew (wr.drew.setCell ⟨g, n, none⟩ (.int .u64 x)) := (Chg.refl (fun k => k = g) wr.drew).setCell (fun _ => rfl) _
            rw [chargeAfter, if_neg (by omega), hpad, ← hn, ← hwas, ← hx]
            show SRep (wr.drew.setCell ⟨g, n, none⟩ (.int .u64 x)) _ _ _ _ _
            refine ⟨?_, hSd.h1.chg hst (fun k hk e => ?_), hSd.h2.store hob hnl x, hSd.n1, hSd.n2, hSd.n3, hSd.up, hSd.l1, by simp; omega⟩
            · rw [heap_setCell_ne (fun e => hgb e.symm)]
              exact hSd.hb
            · subst e
              exact hSd.n3 k hk hob
          · refine (hc.setCell (p := ⟨g, n, none⟩) (fun hlt => ?_) _).drew
            rcases hk2 g hob with h1 | h1
            · exact Or.inr (Or.inr h1)
            · have : g < w.heap.size := hlt
              omega
          · exact hk2
        have hnl' : (n : Int) < cs.length := by omega
        have HU := Lib.hid hwu
        have e1 : (cs.length : Int) = ends.length + 1 := by omega
        have hcl' : ¬ (cs.length : Int) < ends.length + 1 := by omega
        have hnb : ¬ (g = b) := hgb
        have c1s : ∀ x, (wr.setCell ⟨g, n, none⟩ x).cell? ⟨b, 1, none⟩ = some (.slice (some ⟨g, 0, none⟩) cs.length c) := fun x => by
          rw [World.cell?_setCell_other]
          · exact c1d
          · intro e
            cases e
            exact hgb rfl
        have cws : ∀ x, (wr.setCell ⟨g, n, none⟩ x).cell? ⟨g, n, none⟩ = some x := fun x => World.cell?_setCell_same _ _ _ cw
        clear hcs hpad hS hSd hc hk2 hgk hcl huB hroom h hcur hgg hob hn hwas hwu e1 hcsl
        by_cases hm : was < amount
        · have hx : mxI was amount = amount := by simp [mxI, hm]
          have hy : IntKind.u64.wrap (amount - was) = amount - was := IntWalk.u64_in _ ⟨by omega, by have h1 := haB.out.2; have h2 := HU.out.1; omega⟩
          have fin' : ChargePost b v1 v2 ends charges era amount w (.returned (.tuple #[.int .u64 (IntKind.u64.wrap (amount - was)), .int .i64 0])) (wr.setCell ⟨g, n, none⟩ (.int .u64 amount)).drew := fin.out amount hx.symm _ (by rw [hx, hy])
          clear hy hx
          go_wp2
          go_region_held (fun w' => w'.cell? ⟨b, 1, none⟩ = some (.slice (some ⟨g, 0, none⟩) cs.length c)) (first | exact c1d | go_keep) (first | (go_at_call 15; refine hlen.mono ?_; rintro e w' ⟨rfl, rfl⟩))
          all_goals
            go_wp2_with (go_at_call 13; refine hsp.mono ?_; rintro e w' ⟨rfl, rfl⟩)
            go_ret2
            exact fin'
        · have hx : mxI was amount = was := by simp [mxI, hm]
          have fin' : ChargePost b v1 v2 ends charges era amount w (.returned (.tuple #[.int .u64 0, .int .i64 0])) (wr.setCell ⟨g, n, none⟩ (.int .u64 was)).drew := fin.out was hx.symm _ (by rw [hx]; omega)
          clear hx
          go_wp2
          go_region_held (fun w' => w'.cell? ⟨b, 1, none⟩ = some (.slice (some ⟨g, 0, none⟩) cs.length c)) (first | exact c1d | go_keep) (first | (go_at_call 15; refine hlen.mono ?_; rintro e w' ⟨rfl, rfl⟩))
          all_goals
            go_wp2_with (go_at_call 13; refine hsp.mono ?_; rintro e w' ⟨rfl, rfl⟩)
            go_ret2
            exact fin'
end Go.Proofs.Ytpbiilndmcnnfaa
