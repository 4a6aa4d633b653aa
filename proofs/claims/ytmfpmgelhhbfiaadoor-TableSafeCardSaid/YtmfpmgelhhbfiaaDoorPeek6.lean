/- Datagrams: Peek and Check. -/
import Derived.Test.YtmfpmgelhhbfiaaDoorGram
namespace Go.Proofs.YtmfpmgelhhbfiaaDoor
open Go.RowKit

theorem pairAt_lt (s : ByteArray) (i : Nat) : pairAt s i < 65536 := by
  unfold pairAt; have := sb_lt s i; have := sb_lt s (i + 1); omega

set_option maxRecDepth 100000 in
set_option maxHeartbeats 400000 in
theorem peek6_any (w : World) (s : ByteArray) (hi : 40 ≤ s.size) (hs : s.size ≤ 9223372036854775807) :
    Calls Tryd.prog 56 #[.string s] w fun e w' => e = .returned (.agg #[.int .i64 6, .int .i64 40, .int .i64 (40 + pairAt s 4 : Nat), .int .i64 (sb s 6)]) ∧ Below w.heap.size w w' := by
  have h6 : 6 < s.size := by omega
  go_enter Tryd.func56, Tryd.ntmps56
  go_wp2_with fail
  go_region_with (go_at_call 63; refine (pair_any _ s 4 _ rfl (by omega) hs).mono ?_; rintro e w' ⟨rfl, q, rfl⟩)
  all_goals
    have e1 : IntKind.i64.wrap (40 + (pairAt s 4 : Int)) = ((40 + pairAt s 4 : Nat) : Int) := by
      have := pairAt_lt s 4
      rw [IntWalk.i64_in _ (by omega)]; omega
    have e2 := wrap_byte (s[6]).toNat (UInt8.toNat_lt _)
    simp only [e1, e2]
    clear e1 e2
    go_wp2
    refine bodyPost_ret (v := .agg #[.int .i64 6, .int .i64 40, .int .i64 (40 + pairAt s 4 : Nat), .int .i64 (s[6]).toNat]) ?_ rfl ⟨by rw [sb_eq], ?_⟩
    · simp [results, Tryd.results56, go_sem]
    · exact (((((((Below.refl _ _).alloc (Nat.le_refl _) _).drewN _).setCell (Nat.le_refl _) _).setCell (Nat.le_refl _) _).setCell (Nat.le_refl _) _).setCell (Nat.le_refl _) _)

end Go.Proofs.YtmfpmgelhhbfiaaDoor
