/- A datagram is added to a frame. -/
import Derived.Test.YtmfpmgelhhbfiaaDoorFram
namespace Go.Proofs.YtmfpmgelhhbfiaaDoor
open Go.RowKit

theorem rc_bound {n a : Nat} (hn : 0 < n) (h : a < 191 * n) : a % n < n ∧ a / n < 191 := ⟨Nat.mod_lt _ hn, by rw [Nat.div_lt_iff_lt_mul hn]; exact h⟩

set_option maxRecDepth 100000 in
set_option maxHeartbeats 2000000 in
/-- A datagram that is none is not added. -/
theorem add_bad (w : World) (fb : Nat) (d : ByteArray) (hd : checkOf d ≠ 0) (hs : d.size ≤ 9223372036854775807) :
    Calls Tryd.prog 25 #[.pointer (some ⟨fb, 0, none⟩), .string d] w fun e w' => e = .returned (.tuple #[.int .i64 0, .int .i64 (checkOf d)]) ∧ Below w.heap.size w w' := by
  have hc := check_calls w d hs
  have hne := err_ne hd
  have HC := Lib.hid hc
  clear hc
  generalize checkOf d = c at *
  go_enter Tryd.func25, Tryd.ntmps25
  go_wp2_with fail
  refine HC.out.mono ?_
  rintro e w1 ⟨rfl, hB⟩
  have HB := Lib.hid hB
  clear hB
  go_wp2_with fail
  go_ret2
  exact ⟨rfl, HB.out⟩

set_option maxRecDepth 100000 in
set_option maxHeartbeats 2000000 in
/-- A frame that has no room. -/
theorem add_full {w : World} {fb n cols cut : Nat} {ds : List ByteArray} {S : Nat → Prop} (h : FrameAt w fb n cols cut ds S) (d : ByteArray) (hd : checkOf d = 0) (hf : n * cols < tot ds + d.size) (hs : d.size ≤ 100000) :
    Calls Tryd.prog 25 #[.pointer (some ⟨fb, 0, none⟩), .string d] w fun e w' => e = .returned (.tuple #[.int .i64 0, .int .i64 17]) ∧ Below w.heap.size w w' := by
  obtain ⟨⟨rb, v, old, B, h1, _⟩, _⟩ := h
  have hc := check_calls w d (by omega)
  rw [hd] at hc
  have HC := Lib.hid hc
  have hrow := h1.row
  have hlt := hrow.lt
  have hfit := h1.fits
  have HR := Lib.hid hrow
  have hn := h1.most
  have hm : n * cols ≤ 1024 * 191 := Nat.mul_le_mul h1.most h1.wide
  clear hc hrow h1 hd
  go_enter Tryd.func25, Tryd.ntmps25
  go_wp2_with fail
  refine HC.out.mono ?_
  rintro e w1 ⟨rfl, hB⟩
  have hr1 : RowAt w1 fb 69 (fcells n cols cut (tot ds) v rb old) := HR.out.frm (Frm.of_below hB) (by omega)
  have c0 : w1.cell? ⟨fb, 0, none⟩ = some (.int .i64 n) := hr1.cell 0
  have c1 : w1.cell? ⟨fb, 1, none⟩ = some (.int .i64 cols) := hr1.cell 1
  have c4 : w1.cell? ⟨fb, 4, none⟩ = some (.int .i64 (tot ds)) := hr1.cell 4
  have HB := Lib.hid hB
  clear hr1 hB HR HC
  have e1 : IntKind.i64.wrap ((n : Int) * cols) = ((n * cols : Nat) : Int) := by rw [IntWalk.i64_in _ (by constructor <;> (push_cast; omega))]; push_cast; rfl
  generalize n * cols = m at *
  generalize tot ds = t at *
  have e2 : IntKind.i64.wrap ((m : Int) - t) = (m : Int) - t := IntWalk.i64_in _ (by omega)
  have d1 : decide ((m : Int) - t < d.size) = true := by simp; omega
  go_wp2_with fail
  go_quiet (fail)
  go_wp2_with fail
  go_ret2
  exact ⟨rfl, HB.out.drewN _⟩
end Go.Proofs.YtmfpmgelhhbfiaaDoor
