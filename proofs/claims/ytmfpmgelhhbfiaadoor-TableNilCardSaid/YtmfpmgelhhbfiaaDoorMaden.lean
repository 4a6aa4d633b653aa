/- The laws' Made. -/
import Derived.Test.YtmfpmgelhhbfiaaDoorMade
namespace Go.Proofs.YtmfpmgelhhbfiaaDoor
open Go.RowKit

/-- A body of so many bytes of a kind. -/
def bodyOf (n b : Nat) : List UInt8 := (List.range n).map fun i => (b + i % 7).toUInt8
def madeOf (n b : Nat) : ByteArray := make4 ⟨#[97, 98, 99, 100]⟩ ⟨#[101, 102, 103, 104]⟩ b ⟨(bodyOf n b).toArray⟩

theorem mk_size0 (l : List UInt8) : (⟨l.toArray⟩ : ByteArray).size = l.length := by show l.toArray.size = _; simp
theorem byteV_mod (x k : Nat) : byteV (x + k % 7).toUInt8 = .int .u8 (((x : Int) + (k : Int) % 7) % 256) := by
  unfold byteV; congr 1

set_option maxRecDepth 100000 in
set_option maxHeartbeats 2000000 in
theorem made_calls (w : World) (N : Int) (n b : Nat) (hn : (n : Int) = max 0 (min N 4060)) (hb : b < 256) (hN : -1000000 ≤ N ∧ N ≤ 1000000) :
    Calls Tryd.prog 23 #[.int .i64 N, .int .u8 b] w fun e w' => e = .returned (.string (madeOf n b)) ∧ Below w.heap.size w w' := by
  obtain ⟨i0, hi, hz0, hz1, hz2⟩ := info_parts Tryd.infob
  have hn2 : n ≤ 4060 := by omega
  have HN := Lib.hid hn
  clear hn
  go_enter Tryd.func23, Tryd.ntmps23
  go_wp2_with (refine wpList_make_full _ rfl (.tmp 11) (.tmp 11) 89 rfl 0 5 i0 (.int .u8 0) 1 Tryd.underlying89 hi hz0 hz1 .i64 .i64 _ _ n rfl rfl HN.out.symm HN.out.symm ?_ ?_ (Nat.zero_le _) ?_)
  case refine_1 => rw [hz2]; omega
  case refine_2 => unfold maxLen; omega
  case refine_3 =>
    intro w1 hown hgrow
    have hrow : ∃ cur, RowAt w1 w.heap.size 5 cur ∧ cur.size = n := by
      rcases hown.2 with ⟨h, _⟩ | ⟨g, cap, cur, h, _, hg, _, _, hsz, _⟩
      · cases h
      · injection h with h1 h2 h3
        injection h1 with h1; injection h1 with h1
        subst h1 h3
        exact ⟨cur, hg, by omega⟩
    have hB : Below w.heap.size w w1 := (Below.refl _ _).grown hgrow (Nat.le_refl _) (fun k hk => by cases hk)
    have HR := Lib.hid hrow
    have HB := Lib.hid hB
    clear hown hgrow hrow hB
    go_wp2_with fail
    go_loopw [6] (fun i wr => ∃ k : Nat, k ≤ n ∧ i = .int .i64 k ∧ (∃ cur, RowAt wr w.heap.size 5 cur ∧ cur.size = n ∧ ∀ j, j < k → cur[j]? = some (byteV (b + j % 7).toUInt8)) ∧ Below w.heap.size w wr) (fun i _ => n - (intOf i).toNat)
    case atStart =>
      obtain ⟨cur, h1, h2⟩ := HR.out
      exact ⟨0, Nat.zero_le _, rfl, ⟨cur, h1, h2, fun j hj => by omega⟩, HB.out⟩
    case round =>
      obtain ⟨k, hk, rfl, ⟨cur, h1, h2, h3⟩, hB⟩ := hrel
      have H3 := Lib.hid h3
      have HBr := Lib.hid hB
      clear h3 hB
      by_cases hlt : k < n
      · obtain ⟨cv, hcv⟩ : ∃ cv, cur[k]? = some cv := ⟨_, Array.getElem?_eq_getElem (show k < cur.size by omega)⟩
        have hc := h1.cell k
        rw [hcv] at hc
        have hf := h1.frozen k
        have H1 := Lib.hid h1
        have H2 := Lib.hid h2
        clear h1 h2 hcv
        go_wp2_with fail
        refine ⟨⟨k + 1, by omega, by go_num, ⟨_, H1.out.setCell _ _, by simp [H2.out], fun j hj => ?_⟩, HBr.out.setCell (Nat.le_refl _) _⟩, by simp [intOf]; omega⟩
        by_cases e : j = k
        · subst e
          rw [byteV_mod]
          have : j < cur.size := by rw [H2.out]; exact hlt
          simp [this]
        · rw [Array.getElem?_setIfInBounds_ne (by omega)]
          exact H3.out j (by omega)
      · obtain rfl : k = n := by omega
        have hrow : ByteRow wr (.slice (some ⟨w.heap.size, 0, none⟩) k k) (bodyOf k b) := by
          have hl : (bodyOf k b).length = k := by simp [bodyOf]
          refine ⟨by simp, .inr ⟨w.heap.size, k, cur, by rw [hl], Nat.zero_le _, h1, by omega, by unfold maxLen; omega, by omega, ?_⟩⟩
          apply List.ext_getElem?
          intro j
          rw [hl, Nat.mul_one, List.getElem?_take]
          by_cases hj : j < k
          · rw [if_pos hj, Array.getElem?_toList, H3.out j hj]
            simp [bodyOf, hj]
          · rw [if_neg hj, List.getElem?_eq_none (by rw [List.length_map, hl]; omega)]
        have hcv := hrow.text
        have hbs : (⟨(bodyOf k b).toArray⟩ : ByteArray).size ≤ 4060 := by rw [show (⟨(bodyOf k b).toArray⟩ : ByteArray).size = (bodyOf k b).length from mk_size0 _]; simp [bodyOf]; omega
        have HM := Lib.hid (show madeOf k b = make4 ⟨#[97, 98, 99, 100]⟩ ⟨#[101, 102, 103, 104]⟩ b ⟨(bodyOf k b).toArray⟩ from rfl)
        clear h1 h2 hrow
        generalize (⟨(bodyOf k b).toArray⟩ : ByteArray) = T at *
        go_wp2_with fail
        refine (rmake4_calls _ ⟨#[97, 98, 99, 100]⟩ ⟨#[101, 102, 103, 104]⟩ T b hb (by decide) (by decide) hbs).mono ?_
        rintro e w2 ⟨rfl, hB2⟩
        have HB2 := Lib.hid hB2
        clear hB2
        rw [← HM.out]
        go_wp2_with fail
        go_ret
        exact ⟨rfl, HBr.out.trans (HB2.out.mono HBr.out.size)⟩

end Go.Proofs.YtmfpmgelhhbfiaaDoor
