/- The law TableNil. -/
import Derived.Test.YtmfpmgelhhbfiaaDoorNil
import Derived.Deep.RegionHeld3
namespace Go.Proofs.YtmfpmgelhhbfiaaDoor
open Go.RowKit

theorem new_cellk {W : World} {n : Nat} (hn : W.heap.size = n) (e : TypeId) (cur : Array Value) (k : Nat) : (W.alloc (.cells cur e)).cell? ⟨n, k, none⟩ = cur[k]? := by subst hn; exact (RowAt.new W _ _).cell k
theorem SizesAt.lt {w : World} {g : Nat} (h : SizesAt w g) : g < w.heap.size := World.block_lt_of_cell? w _ (h 0 (by decide))

def opCells (a p n b : Int) (t : ByteArray) : Array Value := #[.int .i64 a, .int .i64 p, .int .i64 n, .int .u8 b, .string t]
theorem op_kept {W0 W : World} {bx : Nat} {a p n b : Int} {t : ByteArray} (h : RowAt W0 bx 42 (opCells a p n b t)) (hB : Below W0.heap.size W0 W) :
    W.cell? ⟨bx, 0, none⟩ = some (.int .i64 a) ∧ W.cell? ⟨bx, 1, none⟩ = some (.int .i64 p) ∧ W.cell? ⟨bx, 2, none⟩ = some (.int .i64 n) ∧ W.cell? ⟨bx, 3, none⟩ = some (.int .u8 b) ∧ W.cell? ⟨bx, 4, none⟩ = some (.string t) := by
  have hr : RowAt W bx 42 (opCells a p n b t) := h.frm (Frm.of_below hB) (by have := h.lt; omega)
  exact ⟨hr.cell 0, hr.cell 1, hr.cell 2, hr.cell 3, hr.cell 4⟩

set_option maxRecDepth 100000
set_option maxHeartbeats 8000000
theorem law_nil (w : World) (a p n b : Int) (t : ByteArray) (x : Int) (hb : 0 ≤ b ∧ b < 256) (hT : SizesAt w 1) :
    Calls Tryd.prog 4 #[opV a p n b t, .int .i64 x] w fun e w' => e = .returned (.bool true) ∧ Below w.heap.size w w' := by
  have hW : Below w.heap.size w ((w.alloc (.cells (opCells a p n b t) 42)).alloc (.cells (opCells a p n b t) 42)) := ((Below.refl _ _).alloc (Nat.le_refl _) _).alloc (by simp) _
  have HW := Lib.hid hW
  have HT := Lib.hid (hT.below hW hT.lt)
  have HRow := Lib.hid ((RowAt.new w 42 (opCells a p n b t)).alloc (.cells (opCells a p n b t) 42))
  clear hT hW
  unfold opCells at HW HT HRow
  cases hfew : fewB n t with
  | false =>
    have hf1 := fun W g => few_one W g n t
    rw [hfew] at hf1
    have HF := Lib.hid hf1
    clear hf1 hfew hb
    unfold opV
    go_enter Tryd.func4, Tryd.ntmps4
    go_wp2_with fail
    refine (HF.out _ _ ?_ ?_).mono ?_
    · exact new_cellk (by simp) _ _ 4
    · exact new_cellk (by simp) _ _ 2
    rintro e w1 ⟨rfl, rfl⟩
    generalize (w.alloc _).alloc _ = W2 at *
    go_wp2_with fail
    refine (awake_calls _ HT.out).mono ?_
    rintro e w1 ⟨rfl, hB⟩
    have HB := Lib.hid (HW.out.trans (hB.mono HW.out.size))
    clear hB
    go_wp2_with fail
    go_ret
    exact ⟨rfl, HB.out⟩
  | true =>
    have hf1 := fun W g => few_one W g n t
    rw [hfew] at hf1
    have HF := Lib.hid hf1
    have hn : -5000 ≤ n ∧ n ≤ 5000 := by
      unfold fewB at hfew; simp at hfew; omega
    have HBY := Lib.hid (fun W => bytes_calls W a p n b t hb hn)
    have HCO := Lib.hid (fun W => column_calls W n b hb ⟨hn.2, hn.1⟩)
    clear hf1 hfew hb hn
    unfold opV at *
    go_enter Tryd.func4, Tryd.ntmps4
    go_wp2_with fail
    refine (HF.out _ _ ?_ ?_).mono ?_
    · exact new_cellk (by simp) _ _ 4
    · exact new_cellk (by simp) _ _ 2
    rintro e w1 ⟨rfl, rfl⟩
    generalize (w.alloc _).alloc _ = W2 at *
    go_wp2_with (first | (go_at_call 12; refine (nil_at _ _).mono ?_; rintro e w1 ⟨rfl, rfl⟩) | (go_at_call 13; refine (nil_lost _ _).mono ?_; rintro e w1 ⟨rfl, rfl⟩) | (go_at_call 14; refine (nil_mend _).mono ?_; rintro e w1 ⟨rfl, rfl⟩) | (go_at_call 15; refine (nil_clear _).mono ?_; rintro e w1 ⟨rfl, rfl⟩))
    have HKP := Lib.hid (fun W hB => op_kept (W := W) HRow.out hB)
    have HAW := Lib.hid (fun W hB => awake_calls W (HT.out.below hB HT.out.lt))
    have hbel : Below w1.heap.size w1 w1.drew := (Below.refl _ _).drew
    generalize hbx : w.heap.size = bx at *
    have HBX := Lib.hid hbx
    clear HT HRow HF hbx
    go_region_held3 (fun W => W.cell? ⟨bx, 0, none⟩ = some (.int .i64 a) ∧ W.cell? ⟨bx, 1, none⟩ = some (.int .i64 p) ∧ W.cell? ⟨bx, 2, none⟩ = some (.int .i64 n) ∧ W.cell? ⟨bx, 3, none⟩ = some (.int .u8 b) ∧ W.cell? ⟨bx, 4, none⟩ = some (.string t))
      (first | exact HKP.out _ (Below.refl _ _) | exact HKP.out _ (by assumption) | go_keep)
      (first | (go_at_call 17; refine (HBY.out _).mono ?_; rintro e w2 ⟨rfl, hB2⟩; replace hbel := hbel.trans (hB2.mono hbel.size); clear hB2) | (go_at_call 16; refine (nil_put _ _ _).mono ?_; rintro e w2 ⟨rfl, rfl⟩) | (go_at_call 19; refine (HCO.out _).mono ?_; rintro e w2 ⟨s, rfl, hB2⟩; replace hbel := hbel.trans (hB2.mono hbel.size); clear hB2) | (go_at_call 18; refine (nil_parity _ _ _).mono ?_; rintro e w2 ⟨rfl, rfl⟩) | (go_at_call 20; refine (nil_pad _ _).mono ?_; rintro e w2 ⟨rfl, rfl⟩) | (go_at_call 9; refine (nil_out _).mono ?_; rintro e w2 ⟨rfl, rfl⟩) | (go_at_call 6; refine (HAW.out _ hbel).mono ?_; rintro e w2 ⟨rfl, hB2⟩; replace hbel := hbel.trans (hB2.mono hbel.size); clear hB2))
    obtain rfl := HBX.out
    have HB := Lib.hid (HW.out.trans (hbel.mono HW.out.size))
    clear hbel
    go_wp2
    go_ret
    exact ⟨rfl, HB.out⟩

end Go.Proofs.YtmfpmgelhhbfiaaDoor
