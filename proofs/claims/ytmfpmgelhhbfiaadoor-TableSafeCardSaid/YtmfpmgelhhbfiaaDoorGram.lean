/- Datagrams: what their beginnings tell. -/
import Derived.Test.YtmfpmgelhhbfiaaDoorMem
import Derived.Test.YtmfpmgelhhbfiaaDoorFloat
import Derived.Test.YtmfpmgelhhbfiaaDoorBits
import Derived.WalkKit
import Derived.WalkSpells
import Derived.WalkLawsBesides
import Derived.Deep.QuietTactic
import Derived.BigQuiet
import Derived.IntWalk
import Derived.StillTailTactics
import Derived.Deep.RegionWith
namespace Go.Proofs.YtmfpmgelhhbfiaaDoor
open Go.RowKit

/-- A number of two bytes. -/
def pairAt (s : ByteArray) (i : Nat) : Nat := 256 * sb s i + sb s (i + 1)

theorem or_shift (a b : Nat) (hb : b < 256) : 256 * a ||| b = 256 * a + b := by
  have := Nat.shiftLeft_add_eq_or_of_lt (i := 8) (b := b) (by omega) a
  rw [Nat.shiftLeft_eq] at this
  rw [Nat.mul_comm 256 a, show 256 = 2 ^ 8 from rfl, ← this]

theorem pair_or (a b : Nat) (ha : a < 256) (hb : b < 256) : bits .or .i64 (wrap64 (wrap64 (a : Int) * 256)) (wrap64 (b : Int)) = ((256 * a + b : Nat) : Int) := by
  have h1 : wrap64 (a : Int) = a := by unfold wrap64; omega
  have h2 : wrap64 (b : Int) = b := by unfold wrap64; omega
  rw [h1, h2]
  have h3 : wrap64 ((a : Int) * 256) = ((256 * a : Nat) : Int) := by unfold wrap64; omega
  rw [h3, i64_or_nat _ _ (by omega) (by omega), or_shift a b hb]

set_option maxRecDepth 100000 in
set_option maxHeartbeats 400000 in
theorem pair_any (w : World) (s : ByteArray) (i : Nat) (ii : Int) (hii : ii = i) (hi : i + 1 < s.size) (hs : s.size ≤ 9223372036854775807) :
    Calls Tryd.prog 63 #[.string s, .int .i64 ii] w fun e w' => e = .returned (.int .i64 (pairAt s i)) ∧ ∃ q, w' = w.drewN q := by
  subst hii
  have h0 : i < s.size := by omega
  have h3 : (0 : Int) ≤ (i : Int) + 1 := by omega
  have h4 : ((i : Int) + 1).toNat = i + 1 := by omega
  have h6 : (i : Int) + 1 < (s.size : Int) := by omega
  have h5 : IntKind.i64.wrap ((i : Int) + 1) = (i : Int) + 1 := IntWalk.i64_in _ (by omega)
  go_enter Tryd.func63, Tryd.ntmps63
  go_wp2
  go_quiet (fail)
  go_wp2
  go_ret
  refine ⟨?_, _, rfl⟩
  have := pair_or (s[i]).toNat (s[i+1]).toNat (UInt8.toNat_lt _) (UInt8.toNat_lt _)
  show Ending.returned (.int .i64 (bits .or .i64 (wrap64 (wrap64 (s[i]).toNat * 256)) (wrap64 (s[i+1]).toNat))) = _
  rw [this, sb_eq, sb_eq]; rfl

theorem and15 (a : Nat) : a &&& 15 = a % 16 := Nat.and_two_pow_sub_one_eq_mod a 4
theorem low4_mul (a : Nat) (h : a < 256) : IntKind.i64.wrap (4 * IntKind.i64.wrap (bits BinOp.and IntKind.u8 (a : Int) 15)) = ((4 * (a % 16) : Nat) : Int) := by
  rw [show (15 : Int) = ((15 : Nat) : Int) from rfl, u8_and_nat a 15 h (by omega), and15]
  rw [IntWalk.i64_in ((a % 16 : Nat) : Int) (by omega), IntWalk.i64_in _ (by omega)]
  rfl
theorem wrap_byte (a : Nat) (h : a < 256) : IntKind.i64.wrap (a : Int) = (a : Int) := IntWalk.i64_in _ (by omega)

set_option maxRecDepth 100000 in
set_option maxHeartbeats 400000 in
theorem peek4_any (w : World) (s : ByteArray) (hi : 20 ≤ s.size) (hs : s.size ≤ 9223372036854775807) :
    Calls Tryd.prog 55 #[.string s] w fun e w' => e = .returned (.agg #[.int .i64 4, .int .i64 (4 * (sb s 0 % 16) : Nat), .int .i64 (pairAt s 2), .int .i64 (sb s 9)]) ∧ Below w.heap.size w w' := by
  have h0 : 0 < s.size := by omega
  have h9 : 9 < s.size := by omega
  go_enter Tryd.func55, Tryd.ntmps55
  go_wp2_with fail
  go_region_with (go_at_call 63; refine (pair_any _ s 2 _ rfl (by omega) hs).mono ?_; rintro e w' ⟨rfl, q, rfl⟩)
  all_goals
    have e1 := low4_mul (s[0]).toNat (UInt8.toNat_lt _)
    have e2 := wrap_byte (s[9]).toNat (UInt8.toNat_lt _)
    simp only [e1, e2]
    clear e1 e2
    go_wp2
    refine bodyPost_ret (v := .agg #[.int .i64 4, .int .i64 (4 * ((s[0]).toNat % 16) : Nat), .int .i64 (pairAt s 2), .int .i64 (s[9]).toNat]) ?_ rfl ⟨by rw [sb_eq, sb_eq], ?_⟩
    · simp [results, Tryd.results55, go_sem]
    · exact (((((((Below.refl _ _).alloc (Nat.le_refl _) _).drewN _).setCell (Nat.le_refl _) _).setCell (Nat.le_refl _) _).setCell (Nat.le_refl _) _).setCell (Nat.le_refl _) _)

end Go.Proofs.YtmfpmgelhhbfiaaDoor
