/- Package gf: the numbers of a byte, walked. -/
import Derived.Test.YtmfpmgelhhbfiaaDoorGfa
namespace Go.Proofs.YtmfpmgelhhbfiaaDoor
open Go.RowKit

def NewField (w : World) (e : Ending) (w' : World) : Prop := ∃ fb, e = .returned (.pointer (some ⟨fb, 0, none⟩)) ∧ FieldAt w' fb ∧ Below w.heap.size w w' ∧ w.heap.size ≤ fb

set_option maxRecDepth 100000
set_option maxHeartbeats 2000000
theorem gfnew_calls (w : World) : Calls Tryd.prog 72 #[] w (NewField w) := by
  go_enter Tryd.func72, Tryd.ntmps72
  go_wp2_with fail
  have h0 := FieldTo.start w
  have HS := Lib.hid h0
  clear h0
  go_loopw [2, 6] (fun x i wr => ∃ k : Nat, k ≤ 255 ∧ i = .int .i64 k ∧ x = .int .i64 (pw k : Nat) ∧ FieldTo wr w.heap.size k ∧ Below w.heap.size w wr) (fun _ i _ => 255 - (intOf i).toNat)
  case atStart => exact ⟨0, by omega, rfl, rfl, HS.out, (Below.refl _ _).alloc (Nat.le_refl _) _⟩
  case round =>
    obtain ⟨k, hk, rfl, rfl, hF, hB⟩ := hrel
    have HB := Lib.hid hB
    clear hB
    by_cases hlt : k < 255
    · have hx := pw_lt k
      obtain ⟨⟨v1, c1⟩, f1, ⟨v2, c2⟩, f2, ⟨v3, c3⟩, f3⟩ := hF.cells hlt
      have HN := Lib.hid (hF.next hlt)
      have hn : pw (k + 1) = nxt (pw k) := rfl
      have HX := Lib.hid hn
      clear hF hn
      generalize hpw : pw k = x at *
      have HP := Lib.hid hpw
      clear hpw
      have b1 : (k : Int) < 510 := by omega
      have b2 : (k : Int) + 255 < 510 := by omega
      have b3 : (x : Int) < 256 := by omega
      have b4 : (k : Int) < 255 := by omega
      have hne : (⟨w.heap.size, k, none⟩ : Addr) ≠ ⟨w.heap.size, k + 255, none⟩ := by simp
      have g2 : (wr.setCell ⟨w.heap.size, k, none⟩ (.int .u8 (x : Nat))).cell? ⟨w.heap.size, k + 255, none⟩ = some v2 := by rw [World.cell?_setCell_other _ _ _ _ hne]; exact c2
      have g1 : (wr.setCell ⟨w.heap.size, k + 255, none⟩ (.int .u8 (x : Nat))).cell? ⟨w.heap.size, k, none⟩ = some v1 := by rw [World.cell?_setCell_other _ _ _ _ hne.symm]; exact c1
      go_wp2_with fail
      go_region
      go_wp2_with fail
      all_goals
        have hN := HN.out
        have hX := HX.out
        refine ⟨⟨k + 1, by omega, by simp, ?_, ?_, ?_⟩, ?_⟩
      · rw [hX, nxt, if_pos (by omega)]
        congr 1
        have := i64_xor_nat (x * 2) 285 (by omega) (by omega)
        rw [show (2 * x) = x * 2 by omega, ← this]; simp
      · obtain ⟨cur, r, h⟩ := hN; exact ⟨cur, r.drew, h⟩
      · exact (((HB.out.setCell (Nat.le_refl _) _).setCell (Nat.le_refl _) _).setCell (Nat.le_refl _) _).drew
      · simp only [intOf]; omega
      · rw [hX, nxt, if_neg (by omega)]
        congr 1; omega
      · obtain ⟨cur, r, h⟩ := hN; exact ⟨cur, r.drew, h⟩
      · exact (((HB.out.setCell (Nat.le_refl _) _).setCell (Nat.le_refl _) _).setCell (Nat.le_refl _) _).drew
      · simp only [intOf]; omega
    · have : k = 255 := by omega
      subst this
      go_wp2_with fail
      go_ret
      exact ⟨_, rfl, hF.at_, HB.out, Nat.le_refl _⟩

end Go.Proofs.YtmfpmgelhhbfiaaDoor
