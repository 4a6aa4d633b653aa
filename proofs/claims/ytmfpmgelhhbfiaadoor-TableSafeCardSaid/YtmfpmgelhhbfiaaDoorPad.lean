/- Pad, At, Lost of a table. -/
import Derived.Test.YtmfpmgelhhbfiaaDoorPut
namespace Go.Proofs.YtmfpmgelhhbfiaaDoor
open Go.RowKit

/-- What is known behind padding of so many columns, of i rows and of the row i up to column m. -/
def padTo (cols i m : Nat) (K : Nat → Nat → Bool) (r c : Nat) : Bool := if 191 - cols ≤ c ∧ c < 191 ∧ (r < i ∨ (r = i ∧ c < m)) then true else K r c
def padK (cols : Nat) (K : Nat → Nat → Bool) (r c : Nat) : Bool := if 191 - cols ≤ c ∧ c < 191 then true else K r c

set_option maxRecDepth 100000 in
set_option maxHeartbeats 1000000 in
theorem pad_any (w : World) (tb rb n cols : Nat) (B : Nat → Nat → Nat) (K : Nat → Nat → Bool) (hn : 0 < n) (hn2 : n ≤ 1024) (hcol : cols ≤ 191) (hne : tb ≠ rb)
    (hr : w.cell? ⟨tb, 0, none⟩ = some (.slice (some ⟨rb, 0, none⟩) n n)) (hR : RowsAt w rb n B K) :
    Calls Tryd.prog 20 #[.pointer (some ⟨tb, 0, none⟩), .int .i64 cols] w fun e w' => e = .returned (.int .i64 0) ∧ RowsAt w' rb n B (padK cols K) ∧ Frm (· = rb) w w' := by
  have hlt : tb < w.heap.size := World.block_lt_of_cell? w _ hr
  have h1 : decide ((cols : Int) < 0) = false := by simp
  have h2 : decide ((191 : Int) < (cols : Int)) = false := by simp; omega
  go_enter Tryd.func20, Tryd.ntmps20
  go_wp2_with fail
  go_loopw [22] (fun i wr => ∃ k : Nat, k ≤ n ∧ i = .int .i64 k ∧ RowsAt wr rb n B (padTo cols k 0 K) ∧ Frm (· = rb) w wr) (fun i _ => n - (intOf i).toNat)
  case atStart => exact ⟨0, Nat.zero_le _, rfl, hR.congr (fun _ _ _ _ => rfl) (fun r c _ _ => by unfold padTo; rw [if_neg (by omega)]), Frm.refl _ _⟩
  case round =>
    obtain ⟨k, hk, rfl, hRk, hF⟩ := hrel
    by_cases hlt2 : k < n
    · go_wp2_with fail
      go_loopw [6] (fun i wr => ∃ m : Nat, 191 - cols ≤ m ∧ m ≤ 191 ∧ i = .int .i64 m ∧ RowsAt wr rb n B (padTo cols k m K) ∧ Frm (· = rb) w wr) (fun i _ => 191 - (intOf i).toNat)
      case atStart => exact ⟨191 - cols, by omega, by omega, by rw [show ((191 - cols : Nat) : Int) = 191 - (cols : Int) by omega], hRk.congr (fun _ _ _ _ => rfl) (fun r c _ _ => by unfold padTo; congr 1; simp; omega), hF⟩
      case round =>
        clear hRk hF
        obtain ⟨m, hm1, hm2, rfl, hRm, hFm⟩ := hrel
        have hcc : wr.cell? ⟨tb, 0, none⟩ = some (.slice (some ⟨rb, 0, none⟩) n n) := by rw [hFm.cell hlt hne]; exact hr
        by_cases hlt3 : m < 191
        · have hc1 := hRm.known hlt2 (show m < 255 by omega)
          have hf1 := hRm.frozen (k * 510 + 255 + m)
          have hR1 := hRm.mark hlt2 (show m < 255 by omega) true
          have hR2 : RowsAt (wr.setCell ⟨rb, k * 510 + 255 + m, none⟩ (.bool true)) rb n B (padTo cols k (m + 1) K) :=
            hR1.congr (fun _ _ _ _ => rfl) (fun r c _ _ => by
              unfold padTo
              by_cases e : r = k ∧ c = m
              · rw [if_pos e, if_pos (by omega)]
              · rw [if_neg e]; congr 1; simp; omega)
          have hF2 : Frm (· = rb) w (wr.setCell ⟨rb, k * 510 + 255 + m, none⟩ (.bool true)) := hFm.setCell (p := ⟨rb, k * 510 + 255 + m, none⟩) (fun _ => rfl) _
          have H2 := Lib.hid hR2
          have H3 := Lib.hid hF2
          clear hR1 hR2 hF2
          go_wp2_with fail
          go_roundw
          case rel => exact ⟨m + 1, by omega, by omega, by go_num, H2.out, H3.out⟩
          case measure => simp [intOf]; omega
        · obtain rfl : m = 191 := by omega
          have H2 := Lib.hid (hRm.congr (B' := B) (K' := padTo cols (k + 1) 0 K) (fun _ _ _ _ => rfl) (fun r c _ _ => by unfold padTo; congr 1; simp; omega))
          have H3 := Lib.hid hFm
          clear hRm hFm
          go_wp2_with fail
          go_roundw
          case rel => exact ⟨k + 1, by omega, by go_num, H2.out, H3.out⟩
          case measure => simp [intOf]; omega
    · obtain rfl : k = n := by omega
      have H2 := Lib.hid (hRk.congr (B' := B) (K' := padK cols K) (fun _ _ _ _ => rfl) (fun r c hr _ => by unfold padTo padK; congr 1; simp; omega))
      go_wp2_with fail
      go_ret
      exact ⟨rfl, H2.out, hF⟩

set_option maxRecDepth 100000 in
set_option maxHeartbeats 1000000 in
/-- A byte of data that a table has a place for. -/
theorem at_any (w : World) (tb rb n p : Nat) (pi : Int) (hpi : pi = p) (B : Nat → Nat → Nat) (K : Nat → Nat → Bool) (hn : 0 < n) (hn2 : n ≤ 1024) (hp : p < 191 * n)
    (hr : w.cell? ⟨tb, 0, none⟩ = some (.slice (some ⟨rb, 0, none⟩) n n)) (hR : RowsAt w rb n B K) :
    Calls Tryd.prog 12 #[.pointer (some ⟨tb, 0, none⟩), .int .i64 pi] w fun e w' => e = .returned (.tuple #[.int .u8 (B (p % n) (p / n) : Nat), .bool (K (p % n) (p / n))]) ∧ ∃ q, w' = w.drewN q := by
  subst hpi
  have h1 : decide ((n : Int) * 191 ≤ (p : Int)) = false := by simp; omega
  have hr1 : p % n < n := Nat.mod_lt _ hn
  have hr2 : p / n < 191 := by rw [Nat.div_lt_iff_lt_mul hn]; omega
  have c1 := hR.byte hr1 (show p / n < 255 by omega)
  have c2 := hR.known hr1 (show p / n < 255 by omega)
  have H := Lib.hid hR
  clear hR
  go_enter Tryd.func12, Tryd.ntmps12
  go_wp2_with (go_at_call 32; refine (table_data _ _ n n _ hn2 hr).mono ?_; rintro e w' ⟨rfl, rfl⟩)
  refine (table_place _ tb rb n p _ rfl hn hn2 hp hr).mono ?_
  rintro e w1 ⟨rfl, q, rfl⟩
  generalize e1 : p % n = r at *
  generalize e2 : p / n = c at *
  have H1 := Lib.hid e1
  have H2 := Lib.hid e2
  have h2 : (c : Int) < 255 := by omega
  clear e1 e2 hp
  go_wp2_with fail
  go_quiet (fail)
  go_wp2
  go_ret2
  exact ⟨by rw [H1.out, H2.out]; rfl, _, World.drewN_drewN _ _ _⟩

end Go.Proofs.YtmfpmgelhhbfiaaDoor
