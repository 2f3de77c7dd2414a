/- Calls: SameCall, for two that are alike. -/
import Derived.Test.YtcdbchdlenkdgaaCw
set_option linter.unusedVariables false
set_option linter.unusedSimpArgs false
namespace Go.Proofs.Ytcdbchdlenkdgaa
open Go.RowKit Go.Ps

set_option maxRecDepth 20000 in
set_option maxHeartbeats 2000000 in
theorem samecall_any (x : C7) (A B A2 B2 : Option Addr) (c d c2 d2 : Nat) (w : World) (hA : ReadsI w .u64 A x.list) (hB : ReadsI w .u8 B x.bytes) (hA2 : ReadsI w .u64 A2 x.list) (hB2 : ReadsI w .u8 B2 x.bytes) (hl : x.list.length ≤ 200000000000000) :
    Calls Try.prog 43 #[cv x A c B d, cv x A2 c2 B2 d2] w (BoolPost true w) := by
  obtain ⟨kind, who, a, b, e, list, bytes⟩ := x
  unfold cv BoolPost
  simp only at *
  obtain ⟨S, hS⟩ : ∃ S, S = strOf bytes := ⟨_, rfl⟩
  have hs1 : ∀ W, Chg (fun _ => False) w W → (convert 22 9 (.slice B bytes.length d)).run Try.prog W = .ok (.string S) W := fun W hW => by rw [hS]; exact str_at hB rfl hW
  have hs2 : ∀ W, Chg (fun _ => False) w W → (convert 22 9 (.slice B2 bytes.length d2)).run Try.prog W = .ok (.string S) W := fun W hW => by rw [hS]; exact str_at hB2 rfl hW
  obtain ⟨w2, hw2⟩ : ∃ w2, w2 = (w.alloc (.cells #[.int .i64 kind, .int .i64 who, .int .u64 a, .int .u64 b, .int .u64 e, .slice A list.length c, .slice B bytes.length d] 58)).alloc (.cells #[.int .i64 kind, .int .i64 who, .int .u64 a, .int .u64 b, .int .u64 e, .slice A2 list.length c2, .slice B2 bytes.length d2] 58) := ⟨_, rfl⟩
  have hC : Chg (fun _ => False) w w2 := by rw [hw2]; exact ((Chg.refl _ _).alloc _).alloc _
  have hg1 : w2.heap[w.heap.size]? = some (.cells #[.int .i64 kind, .int .i64 who, .int .u64 a, .int .u64 b, .int .u64 e, .slice A list.length c, .slice B bytes.length d] 58) := by rw [hw2]; exact heap_alloc_ne (heap_alloc_at _ _)
  have hg2 : w2.heap[w.heap.size + 1]? = some (.cells #[.int .i64 kind, .int .i64 who, .int .u64 a, .int .u64 b, .int .u64 e, .slice A2 list.length c2, .slice B2 bytes.length d2] 58) := by
    rw [hw2]
    refine heap_at _ _ _ (by simp)
  have hs1 := hs1 w2 hC
  have hs2 := hs2 w2 hC
  obtain ⟨c0, c1, c2', c3, c4, c5, c6⟩ := read7 hg1
  obtain ⟨e0, e1, e2', e3, e4, e5, e6⟩ := read7 hg2
  have HR := Lib.hid (hA.chg hC (fun _ _ => id))
  have HR2 := Lib.hid (hA2.chg hC (fun _ _ => id))
  have HC := Lib.hid hC
  have HW := Lib.hid hw2
  clear hA hB hA2 hB2 hS hC hg1 hg2 hw2
  go_enter Try.func43, Try.ntmps43
  go_upto_region 1 with (fail)
  rw [← HW.out]
  go_wp2
  go_loopw [60] (fun i wr => ∃ k n : Nat, k ≤ list.length ∧ i = .int .i64 k ∧ wr = w2.drewN n) (fun i _ => list.length - (intOf i).toNat)
  case atStart => exact ⟨0, 0, by omega, rfl, rfl⟩
  case round =>
    obtain ⟨k, n, hk, rfl, rfl⟩ := hrel
    by_cases hk2 : k < list.length
    · obtain ⟨g, o, rfl, hx⟩ := HR.out.plain (by rintro rfl; simp at hk2)
      obtain ⟨g2, o2, rfl, hx2⟩ := HR2.out.plain (by rintro rfl; simp at hk2)
      have p1 := hx k hk2
      have p2 := hx2 k hk2
      obtain ⟨x, hxe⟩ : ∃ x, x = list.getD k 0 := ⟨_, rfl⟩
      rw [← hxe] at p1 p2
      clear hx hx2 hxe
      go_wp2
      go_quiet (fail)
      go_wp2
      go_roundw
      case rel => exact ⟨k + 1, _, by omega, by go_num, rfl⟩
      case measure => simp [intOf]; omega
    · have ej : k = list.length := by omega
      subst ej
      go_wp2
      go_ret
      exact ⟨rfl, HC.out.drewN _⟩
end Go.Proofs.Ytcdbchdlenkdgaa
