/- Package gf: products and powers, walked. -/
import Derived.Test.YtmfpmgelhhbfiaaDoorGf
namespace Go.Proofs.YtmfpmgelhhbfiaaDoor
open Go.RowKit

set_option maxRecDepth 100000
set_option maxHeartbeats 1000000
/-- The product of two numbers. -/
theorem gfmul_calls (w : World) (fb a b : Nat) (ai bi : Int) (hai : ai = a) (hbi : bi = b) (ha : a < 256) (hb : b < 256) (hF : FieldAt w fb) :
    Calls Tryd.prog 74 #[.pointer (some ⟨fb, 0, none⟩), .int .u8 ai, .int .u8 bi] w fun e w' => e = .returned (.int .u8 (gm a b : Nat)) ∧ ∃ q, w' = w.drewN q := by
  subst hai hbi
  have c1 := hF.log ha
  have c2 := hF.log hb
  have l1 := lg_lt a
  have l2 := lg_lt b
  have c3 := hF.exp (i := lg a + lg b) (by omega)
  have H := Lib.hid (show gm a b = if a = 0 ∨ b = 0 then 0 else pw (lg a + lg b) from rfl)
  generalize gm a b = g at *
  generalize pw (lg a + lg b) = pv at *
  generalize lg a = x at *
  generalize lg b = y at *
  have i1 : (a : Int) < 256 := by omega
  have i2 : (b : Int) < 256 := by omega
  have i3 : (x : Int) + y < 510 := by omega
  have i4 : (0 : Int) ≤ (x : Int) + y := by omega
  clear hF
  go_enter Tryd.func74, Tryd.ntmps74
  by_cases e1 : a = 0
  · subst e1
    have H' := H.out
    simp only [true_or, if_true] at H'
    subst H'
    go_wp2_with fail
    go_ret
    exact ⟨rfl, 0, rfl⟩
  · by_cases e2 : b = 0
    · subst e2
      have H' := H.out
      simp only [or_true, if_true] at H'
      subst H'
      go_wp2_with fail
      go_ret
      exact ⟨rfl, 0, rfl⟩
    · have H' := H.out
      rw [if_neg (by omega)] at H'
      subst H'
      have j1 : ((a : Int) == 0) = false := by simp; omega
      have j2 : ((b : Int) == 0) = false := by simp; omega
      go_wp2_with fail
      go_quiet (fail)
      go_wp2_with fail
      go_ret
      exact ⟨rfl, nq, rfl⟩

/-- A power of 2. -/
theorem gfexp_calls (w : World) (fb k : Nat) (ki : Int) (hki : ki = k) (hk : k < 4096) (hF : FieldAt w fb) :
    Calls Tryd.prog 84 #[.pointer (some ⟨fb, 0, none⟩), .int .i64 ki] w fun e w' => e = .returned (.int .u8 (pw k : Nat)) ∧ ∃ q, w' = w.drewN q := by
  subst hki
  have c1 := hF.exp (i := (k % 255 + 255) % 255) (by omega)
  rw [show (k % 255 + 255) % 255 = k % 255 by omega, pw_mod] at c1
  generalize pw k = p at *
  clear hF
  go_enter Tryd.func84, Tryd.ntmps84
  go_wp2_with fail
  go_ret
  exact ⟨rfl, 0, rfl⟩
end Go.Proofs.YtmfpmgelhhbfiaaDoor
