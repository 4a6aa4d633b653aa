/- A nil table. -/
import Derived.Test.YtmfpmgelhhbfiaaDoorAwake
namespace Go.Proofs.YtmfpmgelhhbfiaaDoor
open Go.RowKit

set_option maxRecDepth 100000
set_option maxHeartbeats 1000000
theorem nil_at (w : World) (n : Int) : Calls Tryd.prog 12 #[.pointer none, .int .i64 n] w fun e w' => e = .returned (.tuple #[.int .u8 0, .bool false]) ∧ w' = w := by
  go_enter Tryd.func12, Tryd.ntmps12
  go_wp2_with fail
  go_ret2
  exact ⟨rfl, rfl⟩
theorem nil_lost (w : World) (n : Int) : Calls Tryd.prog 13 #[.pointer none, .int .i64 n] w fun e w' => e = .returned (.tuple #[.int .i64 0, .int .i64 2]) ∧ w' = w := by
  go_enter Tryd.func13, Tryd.ntmps13
  go_wp2_with fail
  go_ret2
  exact ⟨rfl, rfl⟩
theorem nil_mend (w : World) : Calls Tryd.prog 14 #[.pointer none] w fun e w' => e = .returned (.tuple #[.int .i64 0, .int .i64 0]) ∧ w' = w := by
  go_enter Tryd.func14, Tryd.ntmps14
  go_wp2_with fail
  go_ret2
  exact ⟨rfl, rfl⟩
theorem nil_clear (w : World) : Calls Tryd.prog 15 #[.pointer none] w fun e w' => e = .returned (.tuple #[]) ∧ w' = w := by
  go_enter Tryd.func15, Tryd.ntmps15
  go_wp2_with fail
  go_end0
  exact ⟨rfl, rfl⟩
theorem nil_put (w : World) (n : Int) (s : ByteArray) : Calls Tryd.prog 16 #[.pointer none, .int .i64 n, .string s] w fun e w' => e = .returned (.int .i64 2) ∧ w' = w := by
  go_enter Tryd.func16, Tryd.ntmps16
  go_wp2_with fail
  go_ret
  exact ⟨rfl, rfl⟩
theorem nil_parity (w : World) (n : Int) (s : ByteArray) : Calls Tryd.prog 18 #[.pointer none, .int .i64 n, .string s] w fun e w' => e = .returned (.int .i64 2) ∧ w' = w := by
  go_enter Tryd.func18, Tryd.ntmps18
  go_wp2_with fail
  go_ret
  exact ⟨rfl, rfl⟩
theorem nil_pad (w : World) (n : Int) : Calls Tryd.prog 20 #[.pointer none, .int .i64 n] w fun e w' => e = .returned (.int .i64 2) ∧ w' = w := by
  go_enter Tryd.func20, Tryd.ntmps20
  go_wp2_with fail
  go_ret
  exact ⟨rfl, rfl⟩
theorem nil_out (w : World) : Calls Tryd.prog 9 #[.pointer none] w fun e w' => e = .returned (.slice none 0 0) ∧ w' = w := by
  go_enter Tryd.func9, Tryd.ntmps9
  go_wp2_with fail
  go_step3
  go_wp2_with fail
  rw [Exit.noGoto_ret]
  go_ret
  exact ⟨rfl, rfl⟩

/-- A call's cells: what it is, where, how many, which byte, the text. -/
def opV (a p n b : Int) (t : ByteArray) : Value := .agg #[.int .i64 a, .int .i64 p, .int .i64 n, .int .u8 b, .string t]

def fewB (n : Int) (t : ByteArray) : Bool := decide (t.size ≤ 5000 ∧ n ≤ 5000 ∧ -5000 ≤ n)

theorem few_one (w : World) (g : Nat) (n : Int) (t : ByteArray)
    (c4 : w.cell? ⟨g, 4, none⟩ = some (.string t)) (c2 : w.cell? ⟨g, 2, none⟩ = some (.int .i64 n)) :
    Calls Tryd.prog 11 #[.slice (some ⟨g, 0, none⟩) 1 1] w fun e w' => e = .returned (.bool (fewB n t)) ∧ w' = w := by
  by_cases h1 : t.size ≤ 5000
  · have d1 : decide ((5000 : Int) < (t.size : Int)) = false := by simp; omega
    by_cases h2 : n ≤ 5000
    · have d2 : decide ((5000 : Int) < n) = false := by simp; omega
      by_cases h3 : -5000 ≤ n
      · have d3 : decide (n < (-5000 : Int)) = false := by simp; omega
        have hf : fewB n t = true := by unfold fewB; simp; omega
        rw [hf]
        clear hf h1 h2 h3
        go_enter Tryd.func11, Tryd.ntmps11
        go_wp2_with fail
        go_loop [3] (fun i => ∃ k : Nat, k ≤ 1 ∧ i = .int .i64 k) (fun i => 1 - (intOf i).toNat)
        case atStart => exact ⟨0, by omega, rfl⟩
        case round =>
          obtain ⟨k, hk, rfl⟩ := hrel
          by_cases hlt : k < 1
          · obtain rfl : k = 0 := by omega
            go_wp2_with fail
            exact ⟨⟨1, by omega, rfl⟩, by simp [intOf]⟩
          · obtain rfl : k = 1 := by omega
            go_wp2_with fail
            go_ret
            exact ⟨rfl, rfl⟩
      · have d3 : decide (n < (-5000 : Int)) = true := by simp; omega
        have hf : fewB n t = false := by unfold fewB; simp; omega
        rw [hf]
        clear hf h1 h2 h3
        go_enter Tryd.func11, Tryd.ntmps11
        go_wp2_with fail
        refine wp_loop_once ?_
        go_wp2_with fail
        go_ret
        exact ⟨rfl, rfl⟩
    · have d2 : decide ((5000 : Int) < n) = true := by simp; omega
      have hf : fewB n t = false := by unfold fewB; simp; omega
      rw [hf]
      clear hf h1 h2
      go_enter Tryd.func11, Tryd.ntmps11
      go_wp2_with fail
      refine wp_loop_once ?_
      go_wp2_with fail
      go_ret
      exact ⟨rfl, rfl⟩
  · have d1 : decide ((5000 : Int) < (t.size : Int)) = true := by simp; omega
    have hf : fewB n t = false := by unfold fewB; simp; omega
    rw [hf]
    clear hf h1
    go_enter Tryd.func11, Tryd.ntmps11
    go_wp2_with fail
    refine wp_loop_once ?_
    go_wp2_with fail
    go_ret
    exact ⟨rfl, rfl⟩

def bytesOf (n b : Int) (t : ByteArray) : ByteArray := if t.size = 0 then madeOf (max 0 (min n 4060)).toNat b.toNat else t

theorem bytes_calls (w : World) (a p n b : Int) (t : ByteArray) (hb : 0 ≤ b ∧ b < 256) (hn : -5000 ≤ n ∧ n ≤ 5000) :
    Calls Tryd.prog 17 #[opV a p n b t] w fun e w' => e = .returned (.string (bytesOf n b t)) ∧ Below w.heap.size w w' := by
  unfold opV
  by_cases h0 : t.size = 0
  · obtain rfl : t = ⟨#[]⟩ := by
      apply ByteArray.ext; exact Array.eq_empty_of_size_eq_zero h0
    have hB : bytesOf n b ⟨#[]⟩ = madeOf (max 0 (min n 4060)).toNat b.toNat := by unfold bytesOf; rw [if_pos h0]
    rw [hB]
    obtain ⟨B, rfl⟩ := Int.eq_ofNat_of_zero_le hb.1
    rw [Int.toNat_natCast]
    have hm := fun W : World => made_calls W n (max 0 (min n 4060)).toNat B (by omega) (by omega) (by omega)
    have HM := Lib.hid hm
    clear hm hB h0
    go_enter Tryd.func17, Tryd.ntmps17
    go_wp2_with fail
    refine (HM.out _).mono ?_
    rintro e w1 ⟨rfl, hB⟩
    have HB := Lib.hid (base_below hB)
    clear hB
    go_wp2_with fail
    go_ret
    exact ⟨rfl, HB.out⟩
  · have hB : bytesOf n b t = t := by unfold bytesOf; rw [if_neg h0]
    rw [hB]
    have hse : t.toList.isEmpty = false := toList_isEmpty (by omega)
    clear hB h0 hn hb
    go_enter Tryd.func17, Tryd.ntmps17
    go_wp2_with fail
    go_ret
    exact ⟨rfl, (Below.refl _ _).alloc (Nat.le_refl _) _⟩

/-- Some text, in new memory. -/
def SomeText (w : World) (e : Ending) (w' : World) : Prop := ∃ s : ByteArray, e = .returned (.string s) ∧ Below w.heap.size w w'

theorem byte_is (z : Int) (h0 : 0 ≤ z) (h1 : z < 256) : ∃ y : UInt8, Value.int .u8 z = byteV y := by
  obtain ⟨n, rfl⟩ := Int.eq_ofNat_of_zero_le h0
  exact ⟨n.toUInt8, (byteV_nat n (by omega)).symm⟩
theorem bytes_are (l : List Value) (h : ∀ x, x ∈ l → ∃ y : UInt8, x = byteV y) : ∃ b : List UInt8, l = b.map byteV := by
  induction l with
  | nil => exact ⟨[], rfl⟩
  | cons a l ih =>
    obtain ⟨y, rfl⟩ := h a (by simp)
    obtain ⟨b, rfl⟩ := ih (fun x hx => h x (by simp [hx]))
    exact ⟨y :: b, rfl⟩

theorem column_calls (w : World) (n b : Int) (hb : 0 ≤ b ∧ b < 256) (hn : n ≤ 5000 ∧ -5000 ≤ n) :
    Calls Tryd.prog 19 #[.int .i64 n, .int .u8 b] w (SomeText w) := by
  obtain ⟨i0, hi, hz0, hz1, hz2⟩ := info_parts Tryd.infob
  obtain ⟨N, hN⟩ := Int.eq_ofNat_of_zero_le (show (0 : Int) ≤ max 0 n by omega)
  have hN2 : N ≤ 5000 := by omega
  have HN := Lib.hid hN
  obtain ⟨hb1, hb2⟩ := hb
  obtain ⟨hn1, hn2⟩ := hn
  clear hN
  go_enter Tryd.func19, Tryd.ntmps19
  go_wp2_with (refine wpList_make_full _ rfl (.tmp 8) (.tmp 8) 89 rfl 0 5 i0 (.int .u8 0) 1 Tryd.underlying89 hi hz0 hz1 .i64 .i64 _ _ N rfl rfl HN.out HN.out ?_ ?_ (Nat.zero_le _) ?_)
  case refine_1 => rw [hz2]; omega
  case refine_2 => unfold maxLen; omega
  case refine_3 =>
    intro w1 hown hgrow
    have hrow : ∃ cur, RowAt w1 w.heap.size 5 cur ∧ cur.size = N ∧ ∀ (j : Nat) (x : Value), cur[j]? = some x → ∃ y : UInt8, x = byteV y := by
      rcases hown.2 with ⟨h, _⟩ | ⟨g, cap, cur, h, _, hg, _, _, hsz, htk⟩
      · cases h
      · injection h with h1 h2 h3
        injection h1 with h1; injection h1 with h1
        subst h1 h3
        refine ⟨cur, hg, by omega, fun j x hj => ?_⟩
        rw [List.take_of_length_le (by rw [Array.length_toList, hsz]; exact Nat.le_refl _)] at htk
        have : x ∈ (madeCells #[Value.int .u8 0] N).toList := by rw [← htk]; exact Array.mem_toList_iff.2 (Array.mem_of_getElem? hj)
        rw [toList_madeCells_one] at this
        exact ⟨0, List.eq_of_mem_replicate this⟩
    have hB : Below w.heap.size w w1 := (Below.refl _ _).grown hgrow (Nat.le_refl _) (fun k hk => by cases hk)
    have HR := Lib.hid hrow
    have HB := Lib.hid hB
    clear hown hgrow hrow hB
    go_wp2_with fail
    go_loopw [6] (fun i wr => ∃ k : Nat, k ≤ N ∧ i = .int .i64 k ∧ (∃ cur, RowAt wr w.heap.size 5 cur ∧ cur.size = N ∧ ∀ (j : Nat) (x : Value), cur[j]? = some x → ∃ y : UInt8, x = byteV y) ∧ Below w.heap.size w wr) (fun i _ => N - (intOf i).toNat)
    case atStart => exact ⟨0, Nat.zero_le _, rfl, HR.out, HB.out⟩
    case round =>
      obtain ⟨k, hk, rfl, ⟨cur, h1, h2, h3⟩, hB⟩ := hrel
      have H3 := Lib.hid h3
      have HBr := Lib.hid hB
      clear h3 hB
      by_cases hlt : k < N
      · obtain ⟨cv, hcv⟩ : ∃ cv, cur[k]? = some cv := ⟨_, Array.getElem?_eq_getElem (show k < cur.size by omega)⟩
        have hc := h1.cell k
        rw [hcv] at hc
        have hf := h1.frozen k
        have H1 := Lib.hid h1
        have H2 := Lib.hid h2
        clear h1 h2 hcv
        go_wp2_with fail
        refine ⟨⟨k + 1, by omega, by go_num, ⟨_, H1.out.setCell _ _, by simp [H2.out], fun j x hj => ?_⟩, HBr.out.setCell (Nat.le_refl _) _⟩, by simp [intOf]; omega⟩
        by_cases e : j = k
        · subst e
          have : j < cur.size := by rw [H2.out]; exact hlt
          simp [this] at hj
          rw [← hj]
          exact byte_is _ (by omega) (by omega)
        · rw [Array.getElem?_setIfInBounds_ne (by omega)] at hj
          exact H3.out j x hj
      · obtain rfl : k = N := by omega
        obtain ⟨l, hl⟩ := bytes_are cur.toList (fun x hx => by
          obtain ⟨j, hj⟩ := List.mem_iff_getElem?.1 hx
          exact H3.out j x (by rw [← Array.getElem?_toList]; exact hj))
        have hll : l.length = k := by
          have := congrArg List.length hl
          simp at this; omega
        have hrow : ByteRow wr (.slice (some ⟨w.heap.size, 0, none⟩) k k) l :=
          ⟨by simp, .inr ⟨w.heap.size, k, cur, by rw [hll], Nat.zero_le _, h1, by omega, by unfold maxLen; omega, by omega, by rw [hll, Nat.mul_one, ← hl, List.take_of_length_le (by simp; omega)]⟩⟩
        have hcv := hrow.text
        clear h1 h2 hrow hl hll
        go_wp2_with fail
        go_ret
        exact ⟨_, rfl, HBr.out⟩

end Go.Proofs.YtmfpmgelhhbfiaaDoor
