/- Marks: the walk of the law MarksPlay. -/
import Derived.Test.YtaifgalpeaaliaaPl
set_option linter.unusedVariables false
set_option linter.unusedSimpArgs false
namespace Go.Proofs.Ytaifgalpeaaliaa
open Go.RowKit Go.Ps

theorem chg_cell {F : Nat → Prop} {w w' : World} (hc : Chg F w w') {p : Addr} {v : Value} (h : w.cell? p = some v) (hF : ¬ F p.block) : w'.cell? p = some v := by
  rw [World.cell?_of_block (w := w)]
  · exact h
  · exact hc.block _ (World.block_lt_of_cell? w _ h) hF
theorem chg_below {F : Nat → Prop} {w a c : World} {B : Nat} (hb : Below B w a) (h : Chg F a c) (hF : ∀ k, F k → B ≤ k) (hB : B ≤ a.heap.size) : Below B w c :=
  hb.trans (h.below (fun k hk => ⟨by omega, fun hf => by have := hF k hf; omega⟩))
/-- Where the two kinds of marks lie. -/
structure Apart (b g b' B' : Nat) : Prop where
  h1 : g ≠ b'
  h2 : g ≠ B'
  h3 : B' ≠ b
  h4 : B' ≠ g

theorem set_c {w : World} {b g : Nat} {size : Int} {bs : List Int} {ps : List (Int × Value)} (i : Int) (h : MRep w b g size bs) (hs : Same size bs ps) :
    Calls Try.prog 7 #[.pointer (some ⟨b, 0, none⟩), .int .i64 i] w fun e w' => e = .returned (.int .i64 (rsetCode size ps i)) ∧ MRep w' b g size (setAfter size bs i) ∧ Chg (fun k => k = g) w w' := by
  refine (set_any i w b g size bs h).mono ?_
  rintro e w' ⟨he, hm, hc⟩
  exact ⟨by rw [he, hs.code i], hm, hc⟩
theorem has_c {w : World} {b g : Nat} {size : Int} {bs : List Int} {ps : List (Int × Value)} (i : Int) (h : MRep w b g size bs) (hs : Same size bs ps) :
    Calls Try.prog 8 #[.pointer (some ⟨b, 0, none⟩), .int .i64 i] w fun e w' => e = .returned (.bool (IM.has ps i)) ∧ w = w' := by
  have := has_any i w b g size bs h
  rwa [hs.has i] at this
theorem count_c {w : World} {b g : Nat} {size : Int} {bs : List Int} {ps : List (Int × Value)} (h : MRep w b g size bs) (hs : Same size bs ps) :
    Calls Try.prog 9 #[.pointer (some ⟨b, 0, none⟩)] w fun e w' => e = .returned (.int .i64 ps.length) ∧ w = w' := by
  have := count_any w b g size bs h
  rwa [hs.count] at this
theorem rbytes_c {w : World} {b B : Nat} {size : Int} {bs : List Int} {ps : List (Int × Value)} (h : RRep w b B size ps) (hs : Same size bs ps) : Calls Try.prog 16 #[.pointer (some ⟨b, 0, none⟩)] w (BytesPost bs w) := by
  have := rbytes_any w b B size ps h
  rwa [hs.bytes h.lo] at this
theorem pof_c {size : Int} {A : Option Addr} {c : Nat} {bs : List Int} {ps : List (Int × Value)} {w : World} (h0 : 0 ≤ size) (h1 : size ≤ 4096) (hs : Same size bs ps) (hr : ReadsI w .u8 A bs) :
    Calls Try.prog 15 #[.int .i64 size, .slice A bs.length c] w fun e w' => ∃ b g, e = .returned (.tuple #[.pointer (some ⟨b, 0, none⟩), .int .i64 0]) ∧ MRep w' b g size bs ∧ w.heap.size ≤ b ∧ w.heap.size ≤ g ∧ Chg (fun _ => False) w w' := by
  refine (pof_any size A c bs w (by have := hs.len; omega) hr hs.byte).mono ?_
  rintro e w' ⟨_, h2, h3⟩
  obtain ⟨b, g, he, hm, hb, hg⟩ := h2 (hs.pof h0 h1)
  exact ⟨b, g, he, hm, hb, hg, h3⟩
theorem chg_of {w w' : World} (h : Below w.heap.size w w') : Chg (fun _ => False) w w' := ⟨h.os, h.tape, h.output, h.size, fun k hk _ => h.block k hk⟩
def Str (w : World) (A : Option Addr) (bs : List Int) (c : Nat) : Prop := (convert 28 9 (.slice A bs.length c)).run Try.prog w = .ok (.string (strOf bs)) w
theorem str_of {w : World} {A : Option Addr} {bs : List Int} (c : Nat) (h : ReadsI w .u8 A bs) : Str w A bs c := run_str (P := Try.prog) Try.underlying28 Try.underlying5 Try.underlying9 c h
/-- All three stand in a world. -/
structure All3 (w : World) (b g b' B' n gn : Nat) (sz : Int) (bs : List Int) (ps : List (Int × Value)) : Prop where
  m : MRep w b g sz bs
  r : RRep w b' B' sz ps
  n : MRep w n gn sz bs
theorem All3.kept {w w' : World} {b g b' B' n gn : Nat} {sz : Int} {bs : List Int} {ps : List (Int × Value)} (h : All3 w b g b' B' n gn sz bs ps) (hc : Chg (fun _ => False) w w') : All3 w' b g b' B' n gn sz bs ps :=
  ⟨h.m.kept hc id id, h.r.kept hc id id, h.n.kept hc id id⟩
theorem bytes_c {w : World} {b g b' B' n gn : Nat} {sz : Int} {bs : List Int} {ps : List (Int × Value)} (h : All3 w b g b' B' n gn sz bs ps) :
    Calls Try.prog 11 #[.pointer (some ⟨b, 0, none⟩)] w fun e w4 => ∃ A4 c4, e = .returned (.slice A4 bs.length c4) ∧ ReadsI w4 .u8 A4 bs ∧ All3 w4 b g b' B' n gn sz bs ps ∧ Chg (fun _ => False) w w4 := by
  refine (bytes_any w b g sz bs h.m).mono ?_
  rintro e w4 ⟨v, he, hown, hb⟩
  obtain ⟨A4, c4, hv, hr4, _⟩ := ReadsI.of_own hown
  exact ⟨A4, c4, by rw [he, hv], hr4, h.kept (chg_of hb), chg_of hb⟩
theorem rbytes_c3 {w : World} {b g b' B' n gn : Nat} {sz : Int} {bs : List Int} {ps : List (Int × Value)} (h : All3 w b g b' B' n gn sz bs ps) (hs : Same sz bs ps) :
    Calls Try.prog 16 #[.pointer (some ⟨b', 0, none⟩)] w fun e w5 => ∃ g5, e = .returned (.slice (some ⟨g5, 0, none⟩) bs.length bs.length) ∧ ReadsI w5 .u8 (some ⟨g5, 0, none⟩) bs ∧ All3 w5 b g b' B' n gn sz bs ps ∧ Chg (fun _ => False) w w5 := by
  refine (rbytes_c h.r hs).mono ?_
  rintro e w5 ⟨g5, he, hg5, _, hc5⟩
  exact ⟨g5, he, ReadsI.of_block hg5, h.kept hc5, hc5⟩
theorem MRep.drew {w : World} {b g : Nat} {size : Int} {bs : List Int} (h : MRep w b g size bs) : MRep w.drew b g size bs := ⟨h.hb, h.hg, h.ne, h.lo, h.hi, h.len⟩

set_option maxHeartbeats 8000000 in
theorem marksPlay_walk (size : Int) (A : Option Addr) (c : Nat) (l : List Int) (w : World) (_wf : (Lit.int .i64 size).wf = true) (hr : ReadsI w .i64 A l) (hw : ∀ x ∈ l, (Lit.int .i64 x).wf = true) (hy : l.length * 8 ≤ 140737488351232) :
    Calls Try.prog 4 #[.int .i64 size, .slice A l.length c] w fun e w' => e = .returned (.bool true) ∧ Below w.heap.size w w' := by
  by_cases hl : l.length ≤ 200
  · go_enter Try.func4, Try.ntmps4
    go_wp2_with (first | (go_at_call 6; refine (awake_any w).mono ?_; rintro e w1 ⟨rfl, hb1⟩) | (go_at_call 12; refine (new_any size w1).mono ?_; rintro e w2 ⟨b, g, rfl, hm, hb, hg, hc2⟩) | (go_at_call 13; refine (rnew_any size w2).mono ?_; rintro e w3 ⟨b', B', rfl, hm3, hb', hB', hc3⟩))
    have hs0 : 0 ≤ clamp size := hm3.lo
    have hap : Apart b g b' B' := by
      have l1 := heap_lt hm.hb
      have l2 := heap_lt hm.hg
      exact ⟨by omega, by omega, by omega, by omega⟩
    have hw1 := hb1.size
    have hw2 := hc2.size
    have hw3 := hc3.size
    have hb3 : Below w.heap.size w w3 := hb1.trans ((hc2.trans hc3 (fun _ _ => id)).below (fun k hk => ⟨by omega, id⟩))
    have hstart : MRep w3 b g (clamp size) (newBytes (clamp size)) := hm.kept hc3 id id
    have hsame := Same.start (clamp size) hs0
    obtain ⟨sz, hsz⟩ : ∃ sz, sz = clamp size := ⟨_, rfl⟩
    rw [← hsz] at hm3 hstart hsame hs0
    have hlo : w.heap.size ≤ b ∧ w.heap.size ≤ g ∧ w.heap.size ≤ b' ∧ w.heap.size ≤ B' := ⟨by omega, by omega, by omega, by omega⟩
    clear hsz hm hc2 hc3 hb hg hb' hB' hw1 hw2 hw3 hb1
    go_loopw [25] (fun i wr => ∃ (k : Nat) (bs : List Int) (ps : List (Int × Value)), k ≤ l.length ∧ i = .int .i64 k ∧ MRep wr b g sz bs ∧ RRep wr b' B' sz ps ∧ Same sz bs ps ∧ Below w.heap.size w wr) (fun i _ => l.length - (intOf i).toNat)
    case atStart => exact ⟨0, _, _, Nat.zero_le _, rfl, hstart, hm3, hsame, hb3⟩
    case round =>
      obtain ⟨k, bs, ps, hk, rfl, hM, hR, hS, hB⟩ := hrel
      clear hstart hm3 hsame hb3
      by_cases hlt : k < l.length
      · obtain ⟨x, hx⟩ : ∃ x, x = l.getD k 0 := ⟨_, rfl⟩
        have hne : l ≠ [] := by rintro rfl; simp at hlt
        obtain ⟨a, rfl, _⟩ := hr hne
        have hcell : wr.cell? (a.add k) = some (.int .i64 x) := by rw [hx]; exact (hr.below hB).mem k hlt
        have hab : a.block < w.heap.size := by
          have := World.block_lt_of_cell? w _ (hr.mem k hlt)
          rwa [block_add] at this
        have d1 := hR.c1
        clear hx
        go_wp2
        have hcd : wr.drew.cell? (a.add k) = some (.int .i64 x) := hcell
        have d1d : wr.drew.cell? ⟨b', 1, none⟩ = some (.map (some B')) := d1
        go_region_held3 (fun w' => w'.cell? (a.add k) = some (.int .i64 x) ∧ w'.cell? ⟨b', 1, none⟩ = some (.map (some B')))
          (first | exact ⟨hcd, d1d⟩ | exact ⟨hc2x, d1x⟩ | exact ⟨hc3x, d13⟩ | go_keep)
          (first | (go_at_call 7; refine (set_c x hM.drew hS).mono ?_; rintro e w2 ⟨rfl, hM2, hc2⟩; have hc2x := chg_cell hc2 hcd (by rw [block_add]; omega); have d1x := chg_cell hc2 d1d (show ¬ b' = g by have := hap.h1; omega); have hR2 := hR.drew.kept hc2 (show ¬ b' = g by have := hap.h1; omega) (show ¬ B' = g by have := hap.h2; omega)) | (go_at_call 14; refine (rset_any x _ b' B' sz ps hR2).mono ?_; rintro e w3 ⟨rfl, hR3, hc3⟩; have hc3x := chg_cell hc3 hc2x (by rw [block_add]; omega); have d13 := hR3.c1; have hM3 := hM2.kept hc3 (show ¬ b = B' by have := hap.h3; omega) (show ¬ g = B' by have := hap.h2; omega); have lk3 := hR3.look x) | (go_at_call 8; refine (has_c x hM3 (hS.set x)).mono ?_; rintro e w4 ⟨rfl, rfl⟩))
        all_goals
          have hS3 := hS.set x
          have hB2 : Below w.heap.size w w2 := chg_below hB.drew hc2 (fun j hj => by omega) hB.size
          have hB3 : Below w.heap.size w w3 := chg_below hB2 hc3 (fun j hj => by omega) hB2.size
          clear hM2 hc2 hc2x d1x hR2 hc3 hc3x d13 lk3 hcd d1d hcell d1
          go_wp2
          go_roundw
          case rel => exact ⟨k + 1, _, _, by omega, by go_num, hM3, hR3, hS3, hB3⟩
          case measure => simp [intOf]; omega
      · have hkn : k = l.length := by omega
        subst hkn
        have hs1 := hM.hi
        have d0d : wr.drew.cell? ⟨b', 0, none⟩ = some (.int .i64 sz) := hR.c0
        have hrb : Calls Try.prog 16 #[.pointer (some ⟨b', 0, none⟩)] wr.drew fun e w2 => ∃ g2, e = .returned (.slice (some ⟨g2, 0, none⟩) bs.length bs.length) ∧ ReadsI w2 .u8 (some ⟨g2, 0, none⟩) bs ∧ w2.cell? ⟨b', 0, none⟩ = some (.int .i64 sz) ∧ RRep w2 b' B' sz ps ∧ MRep w2 b g sz bs ∧ Chg (fun _ => False) wr w2 := by
          refine (rbytes_c hR.drew hS).mono ?_
          rintro e w2 ⟨g2, he, hg2, _, hc2⟩
          have hR2 := hR.drew.kept hc2 id id
          exact ⟨g2, he, ReadsI.of_block hg2, hR2.c0, hR2, hM.drew.kept hc2 id id, ⟨hc2.os, hc2.tape, hc2.output, hc2.size, hc2.block⟩⟩
        go_wp2
        go_region_held3 (fun w' => w'.cell? ⟨b', 0, none⟩ = some (.int .i64 sz))
          (first | exact d0d | exact d02 | exact d03 | go_keep)
          (first | (go_at_call 16; refine hrb.mono ?_; rintro e w2 ⟨g2, rfl, hg2, d02, hR2, hM2, hc2⟩) | (go_at_call 15; refine (pof_c hs0 hs1 hS hg2).mono ?_; rintro e w3 ⟨n, gn, rfl, hN3, hn, hgn, hc3⟩; have hR3 := hR2.kept hc3 id id; have d03 := hR3.c0; have hM3 := hM2.kept hc3 id id))
        all_goals
          have hall : All3 w3.drew b g b' B' n gn sz bs ps := ⟨hM3.drew, hR3.drew, hN3.drew⟩
          have hB3 : Below w.heap.size w w3.drew := (chg_below (chg_below hB hc2 (fun _ h => absurd h id) hB.size) hc3 (fun _ h => absurd h id) (by have h1 := hB.size; have h2 := hc2.size; omega)).drew
          have e0 := hall.r.c0
          have e1 := hall.r.c1
          have ln3 := fun ty => hall.r.hB.len (P := Try.prog) Try.underlying34 ty
          clear hM hR hM2 hR2 hM3 hR3 hN3 hc2 hc3 hrb d0d d02 d03 hB hg2 hn hgn
          go_wp2
          go_region_held (fun w' => w'.cell? ⟨b', 0, none⟩ = some (.int .i64 sz) ∧ w'.cell? ⟨b', 1, none⟩ = some (.map (some B')))
            (first | exact ⟨e0, e1⟩ | exact ⟨f0, f1⟩ | exact ⟨g0, g1⟩ | go_keep)
            (first | (go_at_call 10; refine (size_any _ b g sz bs hall.m).mono ?_; rintro e w' ⟨rfl, rfl⟩) | (go_at_call 9; refine (count_c hall.m hS).mono ?_; rintro e w' ⟨rfl, rfl⟩) | (go_at_call 11; refine (bytes_c hall).mono ?_; rintro e w4 ⟨A4, c4, rfl, hr4, hall4, hc4⟩; have cv4 : Str w4 A4 bs c4 := str_of c4 hr4; unfold Str at cv4; have f0 := hall4.r.c0; have f1 := hall4.r.c1) | (go_at_call 16; refine (rbytes_c3 hall4 hS).mono ?_; rintro e w5 ⟨g5, rfl, hr5, hall5, hc5⟩; have cv5 : Str w5 (some ⟨g5, 0, none⟩) bs bs.length := str_of _ hr5; have cv45 : Str w5 A4 bs c4 := str_of c4 (hr4.chg hc5 (fun _ _ => id)); unfold Str at cv5 cv45; have g0 := hall5.r.c0; have g1 := hall5.r.c1))
          all_goals
            have hB5 : Below w.heap.size w w5 := chg_below (chg_below hB3 hc4 (fun _ h => absurd h id) hB3.size) hc5 (fun _ h => absurd h id) (by have h1 := hB3.size; have h2 := hc4.size; omega)
            clear hall hall4 hB3 hc4 hc5 e0 e1 f0 f1 g0 g1 cv4 cv45 cv5 ln3 hr4 hr5
            go_wp2
            go_loopw [102] (fun i wr => ∃ k : Nat, k ≤ l.length ∧ i = .int .i64 k ∧ All3 wr b g b' B' n gn sz bs ps ∧ Below w.heap.size w wr) (fun i _ => l.length - (intOf i).toNat)
            case atStart => exact ⟨0, Nat.zero_le _, rfl, hall5, hB5⟩
            case round =>
              obtain ⟨k, hk, rfl, hall, hB⟩ := hrel
              clear hall5 hB5
              by_cases hlt : k < l.length
              · obtain ⟨x, hx⟩ : ∃ x, x = l.getD k 0 := ⟨_, rfl⟩
                have hne : l ≠ [] := by rintro rfl; simp at hlt
                obtain ⟨a, rfl, _⟩ := hr hne
                have hcell : wr.drew.cell? (a.add k) = some (.int .i64 x) := by rw [hx]; exact (hr.below hB).mem k hlt
                have hBd := hB.drew
                have hM := hall.m.drew
                have hN := hall.n.drew
                have halld : All3 wr.drew b g b' B' n gn sz bs ps := hall.kept (Chg.refl _ _).drew
                clear hx hB hall
                go_wp2
                go_region_held (fun w' => w'.cell? (a.add k) = some (.int .i64 x))
                  (first | exact hcell | go_keep)
                  (first | (go_at_call_of 8 (Value.pointer (some ⟨n, 0, none⟩)); refine (has_c x hN hS).mono ?_; rintro e w' ⟨rfl, rfl⟩) | (go_at_call_of 8 (Value.pointer (some ⟨b, 0, none⟩)); refine (has_c x hM hS).mono ?_; rintro e w' ⟨rfl, rfl⟩))
                all_goals
                  go_wp2
                  go_roundw
                  case rel => exact ⟨k + 1, by omega, by go_num, halld, hBd⟩
                  case measure => simp [intOf]; omega
              · have hkn : k = l.length := by omega
                subst hkn
                have k1 := count_c hall.n hS
                have k2 := count_c hall.m hS
                have k3 := size_any _ _ _ _ _ hall.n
                have k4 := size_any _ _ _ _ _ hall.m
                clear hall
                go_wp2_with (first | (go_at_call_of 9 (Value.pointer (some ⟨n, 0, none⟩)); refine k1.mono ?_; rintro e w' ⟨rfl, rfl⟩) | (go_at_call_of 9 (Value.pointer (some ⟨b, 0, none⟩)); refine k2.mono ?_; rintro e w' ⟨rfl, rfl⟩) | (go_at_call_of 10 (Value.pointer (some ⟨n, 0, none⟩)); refine k3.mono ?_; rintro e w' ⟨rfl, rfl⟩) | (go_at_call_of 10 (Value.pointer (some ⟨b, 0, none⟩)); refine k4.mono ?_; rintro e w' ⟨rfl, rfl⟩))
                go_ret
                exact ⟨rfl, hB⟩
  · have hlong : 200 < l.length := by omega
    have tok : True := trivial
    clear hr hw
    go_enter Try.func4, Try.ntmps4
    go_wp2_with (first | (go_at_call 6; clear tok; refine (awake_any w).mono ?_; rintro e w1 ⟨rfl, hb1⟩) | (go_at_call 6; refine (awake_any w1).mono ?_; rintro e w2 ⟨rfl, hb2⟩))
    go_ret
    exact ⟨rfl, hb1.trans (hb2.mono hb1.size)⟩
end Go.Proofs.Ytaifgalpeaaliaa
