/- The reference's datagrams: text, Sum. -/
import Derived.Test.YtmfpmgelhhbfiaaDoorCheck
import Derived.Test.YtmfpmgelhhbfiaaDoorKnown
namespace Go.Proofs.YtmfpmgelhhbfiaaDoor
open Go.RowKit

/-- Numbers as bytes. -/
def textOf (l : List Nat) : ByteArray := ⟨(l.map Nat.toUInt8).toArray⟩

theorem byteV_nat (x : Nat) (h : x < 256) : byteV x.toUInt8 = .int .u8 (x : Int) := by
  unfold byteV; congr 1
  simp; omega

/-- 'string([]byte{x})'. -/
theorem one_byte (w : World) (x : Nat) (h : x < 256) : (convert 89 9 (.slice (some ⟨w.heap.size, 0, none⟩) 1 1)).run Tryd.prog (w.alloc (.cells #[.int .u8 (x : Int)] 5)) = .ok (.string ⟨#[x.toUInt8]⟩) (w.alloc (.cells #[.int .u8 (x : Int)] 5)) := by
  have hr : ByteRow (w.alloc (.cells #[.int .u8 (x : Int)] 5)) (.slice (some ⟨w.heap.size, 0, none⟩) 1 1) [x.toUInt8] :=
    ⟨rfl, .inr ⟨w.heap.size, 1, _, rfl, Nat.zero_le _, RowAt.new w _ _, Nat.le_refl _, by decide, rfl, by simp [byteV_nat x h]⟩⟩
  exact hr.text

theorem textOf_take {l : List Nat} {k : Nat} (h : k < l.length) : textOf (l.take (k + 1)) = textOf (l.take k) ++ ⟨#[UInt8.ofNat (l[k]'h)]⟩ := by
  apply ByteArray.ext
  rw [ByteArray.data_append]
  unfold textOf
  rw [List.take_succ_eq_append_getElem h, List.map_append, ← List.append_toArray]
  rfl

set_option maxRecDepth 100000 in
set_option maxHeartbeats 1000000 in
theorem text_calls (w : World) (g c : Nat) (l : List Nat) (hl : l.length ≤ 1000) (hb : ∀ x, x ∈ l → x < 256) (hcell : ∀ (j x : Nat), l[j]? = some x → w.cell? ⟨g, j, none⟩ = some (.int .i64 (x : Int))) (hg : g < w.heap.size) :
    Calls Tryd.prog 51 #[.slice (some ⟨g, 0, none⟩) l.length c] w fun e w' => e = .returned (.string (textOf l)) ∧ Below w.heap.size w w' := by
  have HB := Lib.hid hb
  have HC := Lib.hid hcell
  clear hb hcell
  go_enter Tryd.func51, Tryd.ntmps51
  go_wp2_with fail
  go_loopw [3, 4] (fun s i wr => ∃ k : Nat, k ≤ l.length ∧ i = .int .i64 k ∧ s = .string (textOf (l.take k)) ∧ Below w.heap.size w wr) (fun _ i _ => l.length - (intOf i).toNat)
  case atStart => exact ⟨0, Nat.zero_le _, rfl, rfl, Below.refl _ _⟩
  case round =>
    obtain ⟨k, hk, rfl, rfl, hB⟩ := hrel
    by_cases hlt : k < l.length
    · have hc1 : wr.cell? ⟨g, k, none⟩ = some (.int .i64 (l[k] : Int)) := by rw [hB.cell hg]; exact HC.out k _ (List.getElem?_eq_getElem hlt)
      have hx := HB.out l[k] (List.getElem_mem hlt)
      have HX := Lib.hid hB
      clear hB
      have hsz : (textOf (l.take k)).size ≤ 1000 := by
        show (((l.take k).map Nat.toUInt8).toArray).size ≤ 1000
        simp; omega
      generalize hT : textOf (l.take k) = T at *
      generalize hxx : l[k] = x at *
      have HT := Lib.hid hT
      have HXX := Lib.hid hxx
      clear hT hxx
      have hcv := one_byte wr x hx
      have HS := Lib.hid (textOf_take hlt)
      go_wp2_with fail
      exact ⟨⟨k + 1, by omega, by go_num, by rw [HS.out, HT.out, HXX.out], HX.out.alloc HX.out.size _⟩, by simp [intOf]; omega⟩
    · obtain rfl : k = l.length := by omega
      have HS := Lib.hid (show textOf (l.take l.length) = textOf l by rw [List.take_length])
      have HX := Lib.hid hB
      clear hB
      go_wp2_with fail
      go_ret
      exact ⟨by rw [HS.out]; rfl, HX.out⟩

/-- The reference's sum, two bytes a step. -/
def refAcc (s : ByteArray) : Nat → Nat
  | 0 => 0
  | k + 1 => if 65535 < refAcc s k + 256 * sb s (2 * k) + sb s (2 * k + 1) then refAcc s k + 256 * sb s (2 * k) + sb s (2 * k + 1) - 65535 else refAcc s k + 256 * sb s (2 * k) + sb s (2 * k + 1)
theorem refAcc_le (s : ByteArray) (k : Nat) : refAcc s k ≤ 65535 := by
  induction k with
  | zero => simp [refAcc]
  | succ k ih => have := sb_lt s (2 * k); have := sb_lt s (2 * k + 1); simp only [refAcc]; split <;> omega
def refSum (s : ByteArray) : Nat := 65535 - refAcc s ((s.size + 1) / 2)
theorem refSum_le (s : ByteArray) : refSum s ≤ 65535 := Nat.sub_le _ _

theorem sb_out {s : ByteArray} {i : Nat} (h : s.size ≤ i) : sb s i = 0 := by
  unfold sb
  rw [List.getD_eq_getElem?_getD, List.getElem?_eq_none (by simpa using h)]; rfl

set_option maxRecDepth 100000 in
set_option maxHeartbeats 2000000 in
theorem rsum_calls (w : World) (s : ByteArray) (hs : s.size ≤ 1000000) :
    Calls Tryd.prog 52 #[.string s] w fun e w' => e = .returned (.int .i64 (refSum s)) ∧ w' = w := by
  go_enter Tryd.func52, Tryd.ntmps52
  go_wp2_with fail
  go_loop [3, 4] (fun a i => ∃ k : Nat, 2 * k ≤ s.size + 1 ∧ i = .int .i64 (2 * k : Nat) ∧ a = .int .i64 (refAcc s k)) (fun _ i => s.size + 1 - (intOf i).toNat)
  case atStart => exact ⟨0, by omega, rfl, rfl⟩
  case round =>
    obtain ⟨k, hk, rfl, rfl⟩ := hrel
    have ha := refAcc_le s k
    by_cases hlt : 2 * k < s.size
    · have hx := sb_lt s (2 * k)
      have hy := sb_lt s (2 * k + 1)
      have hbx := sb_eq hlt
      have hst : refAcc s (k + 1) = if 65535 < refAcc s k + 256 * sb s (2 * k) + sb s (2 * k + 1) then refAcc s k + 256 * sb s (2 * k) + sb s (2 * k + 1) - 65535 else refAcc s k + 256 * sb s (2 * k) + sb s (2 * k + 1) := rfl
      have HS := Lib.hid hst
      clear hst
      by_cases hlt2 : 2 * k + 1 < s.size
      · have hby := sb_eq hlt2
        generalize sb s (2 * k) = x at *
        generalize sb s (2 * k + 1) = y at *
        generalize hA : refAcc s k = A at *
        have d0 : decide (2 * k + 1 < s.size) = true := by simpa using hlt2
        have HA := Lib.hid hA
        clear hA
        by_cases c : 65535 < A + 256 * x + y
        · have HS2 := HS.out
          rw [if_pos c] at HS2
          have HS3 := Lib.hid HS2
          clear HS2 HS
          go_wp2_with fail
          exact ⟨⟨k + 1, by omega, by go_num, by rw [HS3.out]; go_num⟩, by simp [intOf]; omega⟩
        · have HS2 := HS.out
          rw [if_neg c] at HS2
          have HS3 := Lib.hid HS2
          clear HS2 HS
          go_wp2_with fail
          exact ⟨⟨k + 1, by omega, by go_num, by rw [HS3.out]; go_num⟩, by simp [intOf]; omega⟩
      · have hby := sb_out (s := s) (i := 2 * k + 1) (by omega)
        generalize sb s (2 * k) = x at *
        generalize hyy : sb s (2 * k + 1) = y at *
        subst hby
        generalize hA : refAcc s k = A at *
        have d0 : decide (2 * k + 1 < s.size) = false := by simpa using hlt2
        have HA := Lib.hid hA
        clear hA hyy
        by_cases c : 65535 < A + 256 * x + 0
        · have HS2 := HS.out
          rw [if_pos c] at HS2
          have HS3 := Lib.hid HS2
          clear HS2 HS
          go_wp2_with fail
          exact ⟨⟨k + 1, by omega, by go_num, by rw [HS3.out]; go_num⟩, by simp [intOf]; omega⟩
        · have HS2 := HS.out
          rw [if_neg c] at HS2
          have HS3 := Lib.hid HS2
          clear HS2 HS
          go_wp2_with fail
          exact ⟨⟨k + 1, by omega, by go_num, by rw [HS3.out]; go_num⟩, by simp [intOf]; omega⟩
    · have hfin : refSum s = 65535 - refAcc s k := by
        unfold refSum; congr 2; omega
      have HF := Lib.hid hfin
      clear hfin
      generalize refAcc s k = A at *
      go_wp2_with fail
      go_ret
      refine ⟨?_, rfl⟩
      rw [HF.out]
      show Ending.returned (.int .i64 (65535 - (A : Int))) = _
      rw [show ((65535 - A : Nat) : Int) = 65535 - (A : Int) by omega]

end Go.Proofs.YtmfpmgelhhbfiaaDoor
