/- Places of a table and a frame: complex numbers that hold a column and a row. -/
import Derived.Test.YtmfpmgelhhbfiaaDoorRows
import Derived.Test.YtmfpmgelhhbfiaaDoorFloat
import Derived.Test.YtmfpmgelhhbfiaaDoorMem
import Derived.WalkKit
import Derived.WalkSpells
import Derived.WalkLawsBesides
import Derived.Deep.QuietTactic
import Derived.BigQuiet
import Derived.Lib.Hide
namespace Go.Proofs.YtmfpmgelhhbfiaaDoor
open Go.RowKit

theorem spot_col (a n : Nat) (ha : a < 2 ^ 53) : floatOfInt .f64 (wrap64 ((a : Int) / (n : Int))) = Zf.fl (a / n) := by
  have h1 : ((a : Int) / (n : Int)) = ((a / n : Nat) : Int) := by simp
  have h2 : a / n ≤ a := Nat.div_le_self ..
  rw [h1]
  generalize a / n = q at *
  rw [show wrap64 (q : Int) = (q : Int) by unfold wrap64; omega, Zf.floatOfInt_fl (by omega)]

theorem spot_row (a n : Nat) (ha : a < 2 ^ 53) : floatOfInt .f64 ((a : Int) % (n : Int)) = Zf.fl (a % n) := by
  have h1 : ((a : Int) % (n : Int)) = ((a % n : Nat) : Int) := by simp
  have h2 : a % n ≤ a := Nat.mod_le ..
  rw [h1, Zf.floatOfInt_fl (by omega)]

set_option maxHeartbeats 400000 in
theorem table_spot (w : World) (tb : Nat) (g : Option Addr) (n c : Nat) (a : Nat) (hn : 0 < n) (hn2 : n ≤ 1024) (ha : a < 2 ^ 53)
    (hr : w.cell? ⟨tb, 0, none⟩ = some (.slice g n c)) :
    Calls Tryd.prog 46 #[.pointer (some ⟨tb, 0, none⟩), .int .i64 a] w fun e w' => e = .returned (.complex .f64 (Zf.fl (a / n)) (Zf.fl (a % n))) ∧ ∃ q, w' = w.drewN q := by
  go_enter Tryd.func46, Tryd.ntmps46
  go_wp2
  go_quiet (fail)
  go_wp2
  go_ret
  refine ⟨?_, nq, rfl⟩
  rw [spot_col a n ha, spot_row a n ha]; rfl

theorem int_of_fl (n : Nat) (h : n < 2 ^ 53) : floatToIntVal .f64 (Zf.fl n) .i64 = some (n : Int) := Zf.fl_toInt h

/-- The row and the column of a place. -/
theorem table_place (w : World) (tb rb : Nat) (n : Nat) (a : Nat) (p : Int) (hp : p = a) (hn : 0 < n) (hn2 : n ≤ 1024) (ha : a < 191 * n)
    (hr : w.cell? ⟨tb, 0, none⟩ = some (.slice (some ⟨rb, 0, none⟩) n n)) :
    Calls Tryd.prog 33 #[.pointer (some ⟨tb, 0, none⟩), .int .i64 p] w fun e w' => e = .returned (.tuple #[.pointer (some ⟨rb, (a % n) * 510, none⟩), .int .i64 (a / n : Nat)]) ∧ ∃ q, w' = w.drewN q := by
  subst hp
  go_enter Tryd.func33, Tryd.ntmps33
  go_wp2_with fail
  refine (table_spot w tb _ n n a hn hn2 (by omega) hr).mono ?_
  rintro e w' ⟨rfl, q, rfl⟩
  have hq1 : a % n < 2 ^ 53 := by have := Nat.mod_lt a hn; omega
  have hq2 : a / n < 2 ^ 53 := by have := Nat.div_le_self a n; omega
  have hc1 : ∀ W : World, (convert 97 3 (.float .f64 (Zf.fl (a % n)))).run Tryd.prog W = .ok (.int .i64 (a % n : Nat)) W := fun W =>
    run_convert_float_int W _ _ .f64 .i64 _ _ (by kernel_rfl) Tryd.underlying3 (int_of_fl _ hq1)
  have hc2 : ∀ W : World, (convert 97 3 (.float .f64 (Zf.fl (a / n)))).run Tryd.prog W = .ok (.int .i64 (a / n : Nat)) W := fun W =>
    run_convert_float_int W _ _ .f64 .i64 _ _ (by kernel_rfl) Tryd.underlying3 (int_of_fl _ hq2)
  clear hq1 hq2
  generalize Zf.fl (a % n) = x1 at *
  generalize Zf.fl (a / n) = x2 at *
  have hlt : a % n < n := Nat.mod_lt a hn
  generalize hr1 : a % n = r at *
  generalize hr2 : a / n = c at *
  have H1 := Lib.hid hr1
  have H2 := Lib.hid hr2
  clear hr1 hr2
  go_wp2
  go_ret2
  exact ⟨by rw [H1.out, H2.out]; rfl, q, rfl⟩

set_option maxHeartbeats 400000 in
theorem table_set (w : World) (rb : Nat) (r n b : Nat) (ni bi : Int) (hni : ni = n) (hbi : bi = b) (hn : (n : Int) < 255)
    (hc1 : (w.cell? ⟨rb, r + n, none⟩).isSome = true) (hc2 : (w.cell? ⟨rb, r + 255 + n, none⟩).isSome = true) (hf1 : w.frozen? ⟨rb, r + n, none⟩ = false) (hf2 : w.frozen? ⟨rb, r + 255 + n, none⟩ = false) :
    Calls Tryd.prog 36 #[.pointer (some ⟨rb, r, none⟩), .int .i64 ni, .int .u8 bi] w fun e w' => e = .returned (.tuple #[]) ∧
     w' = ((w.setCell ⟨rb, r + n, none⟩ (.int .u8 b)).setCell ⟨rb, r + 255 + n, none⟩ (.bool true)).drew := by
  subst hni hbi
  obtain ⟨v1, hv1⟩ := Option.isSome_iff_exists.1 hc1
  obtain ⟨v2, hv2⟩ := Option.isSome_iff_exists.1 hc2
  clear hc1 hc2
  have hne : (⟨rb, r + n, none⟩ : Addr) ≠ ⟨rb, r + 255 + n, none⟩ := by simp
  have g2 : (w.setCell ⟨rb, r + n, none⟩ (.int .u8 b)).cell? ⟨rb, r + 255 + n, none⟩ = some v2 := by rw [World.cell?_setCell_other _ _ _ _ hne]; exact hv2
  have g1 : (w.setCell ⟨rb, r + 255 + n, none⟩ (.bool true)).cell? ⟨rb, r + n, none⟩ = some v1 := by rw [World.cell?_setCell_other _ _ _ _ hne.symm]; exact hv1
  clear hne
  go_enter Tryd.func36, Tryd.ntmps36
  go_wp2
  go_region
  go_wp2
  go_end0
  exact ⟨rfl, rfl⟩

end Go.Proofs.YtmfpmgelhhbfiaaDoor
