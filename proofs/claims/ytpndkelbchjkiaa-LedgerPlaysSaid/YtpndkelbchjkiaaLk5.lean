/- What all accounts have together. -/
import Derived.Test.YtpndkelbchjkiaaLk1
import Derived.Test.YtpndkelbchjkiaaLk4
set_option linter.unusedVariables false
set_option linter.unusedSimpArgs false
namespace Go.Proofs.Ytpndkelbchjkiaa
open Go.RowKit Go.Ps
theorem sumA_app : ∀ (l m : List Ac), sumA (l ++ m) = sumA l + sumA m
  | [], m => by simp [sumA]
  | x :: l, m => by simp [sumA, sumA_app l m]; omega
theorem take_snocA (l : List Ac) (k : Nat) (h : k < l.length) : l.take (k + 1) = l.take k ++ [l.getD k a0] := by
  rw [List.getD_eq_getElem?_getD, List.getElem?_eq_getElem h]
  exact (List.take_append_getElem h).symm
theorem sumA_take (l : List Ac) (k : Nat) (h : k < l.length) : sumA (l.take (k + 1)) = sumA (l.take k) + (l.getD k a0).sum := by
  rw [take_snocA l k h, sumA_app]
  simp [sumA]
theorem sumA_take_le {l : List Ac} (k : Nat) (h : ∀ x ∈ l, x.ok) : 0 ≤ sumA (l.take k) ∧ sumA (l.take k) ≤ sumA l := by
  have h1 := sumA_app (l.take k) (l.drop k)
  rw [List.take_append_drop] at h1
  have h2 := sumA_nn (l := l.drop k) (fun x hx => h x (List.mem_of_mem_drop hx))
  have h3 := sumA_nn (l := l.take k) (fun x hx => h x (List.mem_of_mem_take hx))
  omega
set_option maxRecDepth 20000 in
set_option maxHeartbeats 4000000 in
theorem all_any {w : World} {g : Nat} {V : Value} {L : List Row} {s : S} (h : LS 64 34 38 S.hd w g V L s) (hI : s.Inv) (hl : s.acc.length ≤ 1000) :
    Calls Try.prog 27 #[.pointer (some ⟨g, 0, none⟩)] w fun e w' => e = .returned (.int .u64 s.iss) ∧ Chg (fun _ => False) w w' := by
  have htr := treasury_any h.at_.lat
  have hpo := pot_any h.at_.lat
  have hac := accounts_any h.at_.lat
  obtain ⟨n, hn⟩ : ∃ n, n = L.length := ⟨_, rfl⟩
  have hnl : n = s.acc.length := by rw [hn]; exact h.len
  rw [← hn] at hac
  obtain ⟨tp, htp⟩ : ∃ tp, s.tre + s.pot = tp := ⟨_, rfl⟩
  have hiss : s.iss = tp + sumA s.acc := by rw [← hI.w, ← htp]; rfl
  have htp0 : 0 ≤ tp := by have := hI.t; have := hI.p; omega
  have hsn := sumA_nn hI.a
  have hi64 := hI.i
  have hwtp : IntKind.u64.wrap (s.tre + s.pot) = tp := by rw [wrap64u]; omega
  have hn1 : n ≤ 1000 := by omega
  have HH := Lib.hid (⟨h, hI, hnl, hiss, htp0⟩ : _ ∧ _ ∧ _ ∧ _ ∧ _)
  obtain ⟨I, hIe⟩ : ∃ I, I = s.iss := ⟨_, rfl⟩
  rw [← hIe]
  have HI := Lib.hid hIe
  obtain ⟨t0, ht0⟩ : ∃ t, t = s.tre := ⟨_, rfl⟩
  obtain ⟨p0, hp0⟩ : ∃ t, t = s.pot := ⟨_, rfl⟩
  rw [← ht0] at htr hwtp
  rw [← hp0] at hpo hwtp
  clear h hI hl hn hnl htp hiss htp0 hsn hi64 hIe ht0 hp0
  go_enter Try.func27, Try.ntmps27
  go_wp2_with fail
  refine htr.mono ?_
  rintro e w1 ⟨rfl, rfl⟩
  go_wp2_with fail
  refine hpo.mono ?_
  rintro e w2 ⟨rfl, rfl⟩
  go_wp2_with fail
  refine hac.mono ?_
  rintro e w3 ⟨rfl, rfl⟩
  clear htr hpo hac
  go_wp2
  go_loopw [3, 15] (fun a i wr => ∃ k : Nat, k ≤ n ∧ i = .int .i64 k ∧ a = .int .u64 (tp + sumA (s.acc.take k)) ∧ Hid (Chg (fun _ => False) w wr)) (fun _ i _ => n - (intOf i).toNat)
  case atStart => exact ⟨0, by omega, rfl, by simp [sumA], Lib.hid (Chg.refl _ _)⟩
  case round =>
    obtain ⟨k, hk, rfl, rfl, HC⟩ := hrel
    by_cases hk2 : k < n
    · obtain ⟨h, hI, hnl, hiss, htp0⟩ := HH.out
      have hkl : k < s.acc.length := by omega
      have hac := account_any (h.keep HC.out) k (by have := hI.few k; omega)
      unfold AccPost at hac
      simp only [if_neg (show ¬ s.bad k by unfold S.bad; omega), Int.toNat_natCast] at hac
      have hok := hI.toNn.acc hkl
      have hst := sumA_take s.acc k hkl
      have hb1 := sumA_take_le k hI.a
      have hb2 := sumA_take_le (k + 1) hI.a
      obtain ⟨a, ha⟩ : ∃ a, a = s.acc.getD k a0 := ⟨_, rfl⟩
      rw [← ha] at hac hok hst
      have hf := hok.f
      have hb := hok.b
      have hd := hok.d
      have hn := hok.nn
      have hi64 := hI.i
      obtain ⟨t, ht⟩ : ∃ t, tp + sumA (s.acc.take k) = t := ⟨_, rfl⟩
      have hsum : a.sum = a.free + a.bonded + a.dep + sumC a.ch := rfl
      obtain ⟨t1, ht1⟩ : ∃ t', t + a.free = t' := ⟨_, rfl⟩
      obtain ⟨t2, ht2⟩ : ∃ t', t1 + a.bonded = t' := ⟨_, rfl⟩
      obtain ⟨t3, ht3⟩ : ∃ t', t2 + a.dep = t' := ⟨_, rfl⟩
      have w1 : IntKind.u64.wrap (t + a.free) = t1 := by rw [wrap64u]; omega
      have w2 : IntKind.u64.wrap (t1 + a.bonded) = t2 := by rw [wrap64u]; omega
      have w3 : IntKind.u64.wrap (t2 + a.dep) = t3 := by rw [wrap64u]; omega
      have hend : t3 + sumC a.ch = tp + sumA (s.acc.take (k + 1)) := by omega
      have hend2 : t3 + sumC a.ch < 18446744073709551616 ∧ 0 ≤ t3 := by omega
      obtain ⟨fr, hfr⟩ : ∃ x, x = a.free := ⟨_, rfl⟩
      obtain ⟨bo, hbo⟩ : ∃ x, x = a.bonded := ⟨_, rfl⟩
      obtain ⟨de, hde⟩ : ∃ x, x = a.dep := ⟨_, rfl⟩
      obtain ⟨cn, hcn⟩ : ∃ x, x = a.ch.length := ⟨_, rfl⟩
      rw [← hfr] at hac w1
      rw [← hbo] at hac w2
      rw [← hde] at hac w3
      rw [← hcn] at hac
      have hc8 : cn ≤ 8 := by rw [hcn]; exact hok.n
      have HK := Lib.hid (⟨hend, hend2, hcn, hok.ch0⟩ : _ ∧ _ ∧ _ ∧ _)
      rw [ht]
      clear h hI hnl hiss htp0 hkl hok hst hb1 hb2 ha hf hb hd hn hi64 ht hsum ht1 ht2 ht3 hend hend2 hfr hbo hde hcn
      go_wp2_with fail
      refine hac.mono ?_
      rintro e w4 ⟨A4, c4, rfl, hN4⟩
      have k4 : (w4.alloc (.cells #[.int .u64 fr, .int .u64 bo, .int .u64 de, .slice A4 cn c4] 34)).heap[w4.heap.size]? = some (.cells #[.int .u64 fr, .int .u64 bo, .int .u64 de, .slice A4 cn c4] 34 (0, 0)) := heap_alloc_at _ _
      have hC4 : Chg (fun _ => False) wr (w4.alloc (.cells #[.int .u64 fr, .int .u64 bo, .int .u64 de, .slice A4 cn c4] 34)) := hN4.2.1.alloc _
      have hO4 := hN4.1.chg ((Chg.refl (fun _ => False) w4).alloc (.cells #[.int .u64 fr, .int .u64 bo, .int .u64 de, .slice A4 cn c4] 34)) (fun _ _ => id)
      obtain ⟨W4, hW4⟩ : ∃ W, W = w4.alloc (.cells #[.int .u64 fr, .int .u64 bo, .int .u64 de, .slice A4 cn c4] 34) := ⟨_, rfl⟩
      obtain ⟨q4, hq4⟩ : ∃ q, q = w4.heap.size := ⟨_, rfl⟩
      rw [← hW4] at k4 hC4 hO4
      rw [← hq4] at k4
      obtain ⟨x0, x1, x2, x3⟩ := read4 k4
      have HW4 := Lib.hid (⟨hW4, hq4⟩ : _ ∧ _)
      have HR := Lib.hid (⟨HC.out.trans hC4 (fun _ _ h => h), hO4⟩ : _ ∧ _)
      clear hN4 k4 hC4 hO4 hW4 hq4 hac
      go_upto_region 6 with (fail)
      rw [← HW4.out.1, ← HW4.out.2]
      go_wp2
      go_loop [3, 37] (fun b i => ∃ t : Nat, t ≤ cn ∧ i = .int .i64 t ∧ b = .int .u64 (t3 + sumC (a.ch.take t))) (fun _ i => cn - (intOf i).toNat)
      case atStart => exact ⟨0, by omega, rfl, by simp [sumC]⟩
      case round =>
        obtain ⟨t, ht, rfl, rfl⟩ := hrel
        by_cases ht2 : t < cn
        · obtain ⟨hend, hend2, hcn, hch⟩ := HK.out
          obtain ⟨bx, cx, e6, _, _, v0, _⟩ := ownF_cells HR.out.2 (k := t) (by omega)
          simp only [Value.slice.injEq] at e6
          obtain ⟨rfl, -, rfl⟩ := e6
          have hs1 := sumC_take_le a.ch (t + 1) hch
          have hs0 := sumC_take_le a.ch t hch
          have hst : sumC (a.ch.take (t + 1)) = sumC (a.ch.take t) + (a.ch.getD t d0).1 := by
            rw [take_snocC a.ch t (by omega), sumC_app]
            simp [sumC]
          obtain ⟨x, hxe⟩ : ∃ x, x = (a.ch.getD t d0).1 := ⟨_, rfl⟩
          rw [← hxe] at v0 hst
          obtain ⟨l0, hl0⟩ : ∃ t', t3 + sumC (a.ch.take t) = t' := ⟨_, rfl⟩
          obtain ⟨l1, hl1⟩ : ∃ t', t3 + sumC (a.ch.take (t + 1)) = t' := ⟨_, rfl⟩
          have hwt : IntKind.u64.wrap (l0 + x) = l1 := by rw [wrap64u]; omega
          have HT := Lib.hid hl1
          rw [hl0]
          clear hend hend2 hcn hch hs1 hs0 hst hxe hl0 hl1
          go_wp2
          go_round
          case rel => exact ⟨t + 1, by omega, by go_num, by rw [HT.out]⟩
          case measure => simp [intOf]; omega
        · have et : t = cn := by omega
          subst et
          rw [show a.ch.take t = a.ch by rw [HK.out.2.2.1]; exact List.take_length, HK.out.1]
          go_wp2
          go_roundw
          case rel => exact ⟨k + 1, by omega, by go_num, rfl, Lib.hid HR.out.1⟩
          case measure => simp [intOf]; omega
    · have ek : k = n := by omega
      subst ek
      rw [show s.acc.take k = s.acc by rw [HH.out.2.2.1]; exact List.take_length, ← HH.out.2.2.2.1, ← HI.out]
      go_wp2
      go_ret
      exact ⟨rfl, HC.out⟩
end Go.Proofs.Ytpndkelbchjkiaa
