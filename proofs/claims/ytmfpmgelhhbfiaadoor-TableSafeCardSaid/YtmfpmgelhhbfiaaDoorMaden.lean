/- The laws' Made. -/
import Derived.Test.YtmfpmgelhhbfiaaDoorRef7
namespace Go.Proofs.YtmfpmgelhhbfiaaDoor
open Go.RowKit

def headOf (n p : Nat) : ByteArray := textOf [69, 0, n / 256, n % 256, 0, 0, 0, 0, 64, p]
def make4 (f t : ByteArray) (p : Nat) (b : ByteArray) : ByteArray :=
  headOf (20 + b.size) p ++ textOf [refSum (headOf (20 + b.size) p ++ ⟨#[0, 0]⟩ ++ f ++ t) / 256, refSum (headOf (20 + b.size) p ++ ⟨#[0, 0]⟩ ++ f ++ t) % 256] ++ f ++ t ++ b

theorem textOf_size (l : List Nat) : (textOf l).size = l.length := by show ((l.map Nat.toUInt8).toArray).size = _; simp
theorem headOf_size (n p : Nat) : (headOf n p).size = 10 := textOf_size _

theorem make4_eq (f t : ByteArray) (p : Nat) (b : ByteArray) : make4 f t p b = headOf (20 + b.size) p ++ textOf [refSum (headOf (20 + b.size) p ++ ⟨#[0, 0]⟩ ++ f ++ t) / 256, refSum (headOf (20 + b.size) p ++ ⟨#[0, 0]⟩ ++ f ++ t) % 256] ++ f ++ t ++ b := rfl

/-- text of a slice that was just laid. -/
theorem text_new (w : World) (n : Nat) (l : List Nat) (k : Nat) (cur : Array Value) (hn : w.heap.size = n) (hk : k = l.length) (hcur : cur = (l.map fun x : Nat => Value.int .i64 (x : Int)).toArray) (hl : l.length ≤ 1000) (hb : ∀ x, x ∈ l → x < 256) :
    Calls Tryd.prog 51 #[.slice (some ⟨n, 0, none⟩) k k] (w.alloc (.cells cur 3)) fun e w' => e = .returned (.string (textOf l)) ∧ Below w.heap.size w w' := by
  subst hn hk hcur
  refine (text_calls _ w.heap.size l.length l hl hb ?_ (by simp)).mono ?_
  · intro j x hj
    rw [(RowAt.new w _ _).cell]
    simp [hj]
  · rintro e w' ⟨rfl, hB⟩
    exact ⟨rfl, ((Below.refl _ _).alloc (Nat.le_refl _) _).trans (hB.mono (by simp))⟩

set_option maxRecDepth 100000 in
set_option maxHeartbeats 2000000 in
theorem rmake4_calls (w : World) (f t b : ByteArray) (p : Nat) (hp : p < 256) (hf : f.size ≤ 100) (ht : t.size ≤ 100) (hb : b.size ≤ 4060) :
    Calls Tryd.prog 39 #[.string f, .string t, .int .i64 p, .string b] w fun e w' => e = .returned (.tuple #[.string (make4 f t p b), .int .i64 0]) ∧ Below w.heap.size w w' := by
  have d1 : decide ((p : Int) < 0) = false := by simp
  have d2 : decide ((255 : Int) < (p : Int)) = false := by simp; omega
  have d3 : decide ((4080 : Int) < 20 + (b.size : Int)) = false := by simp; omega
  go_enter Tryd.func39, Tryd.ntmps39
  go_wp2_with fail
  refine (text_new w _ [69, 0, (20 + b.size) / 256, (20 + b.size) % 256, 0, 0, 0, 0, 64, p] 10 _ rfl rfl (by simp) (by simp) (by simp; omega)).mono ?_
  rintro e w1 ⟨rfl, hB1⟩
  have HB1 := Lib.hid hB1
  clear hB1
  have hh : textOf [69, 0, (20 + b.size) / 256, (20 + b.size) % 256, 0, 0, 0, 0, 64, p] = headOf (20 + b.size) p := rfl
  have hhs := headOf_size (20 + b.size) p
  rw [hh]
  have hm := make4_eq f t p b
  generalize headOf (20 + b.size) p = H at *
  have HM := Lib.hid hm
  clear hh d1 d2 d3 hm
  have hHs : H.size ≤ 10 := by omega
  clear hhs
  have hcs : (⟨#[0, 0]⟩ : ByteArray).size = 2 := rfl
  go_wp2_with fail
  refine (rsum_calls _ _ (by simp only [ByteArray.size_append, hcs]; omega)).mono ?_
  rintro e w2 ⟨rfl, rfl⟩
  have hC := refSum_le (H ++ ⟨#[0, 0]⟩ ++ f ++ t)
  generalize hcc : refSum (H ++ ⟨#[0, 0]⟩ ++ f ++ t) = C at *
  have HC := Lib.hid hcc
  clear hcc hcs
  go_wp2_with fail
  refine (text_new _ _ [C / 256, C % 256] 2 _ rfl rfl (by simp) (by simp) (by simp; omega)).mono ?_
  rintro e w3 ⟨rfl, hB3⟩
  have HB3 := Lib.hid hB3
  have hT : (textOf [C / 256, C % 256]).size ≤ 2 := by rw [textOf_size]; simp
  generalize hTT : textOf [C / 256, C % 256] = T at *
  have HT := Lib.hid hTT
  clear hB3 hTT hC
  go_wp2_with fail
  go_ret2
  exact ⟨by rw [HM.out]; rfl, HB1.out.trans (HB3.out.mono HB1.out.size)⟩

end Go.Proofs.YtmfpmgelhhbfiaaDoor

namespace Go.Proofs.YtmfpmgelhhbfiaaDoor
open Go.RowKit

/-- A body of so many bytes of a kind. -/
def bodyOf (n b : Nat) : List UInt8 := (List.range n).map fun i => (b + i % 7).toUInt8
def madeOf (n b : Nat) : ByteArray := make4 ⟨#[97, 98, 99, 100]⟩ ⟨#[101, 102, 103, 104]⟩ b ⟨(bodyOf n b).toArray⟩

theorem mk_size0 (l : List UInt8) : (⟨l.toArray⟩ : ByteArray).size = l.length := by show l.toArray.size = _; simp
theorem byteV_mod (x k : Nat) : byteV (x + k % 7).toUInt8 = .int .u8 (((x : Int) + (k : Int) % 7) % 256) := by
  unfold byteV; congr 1

set_option maxRecDepth 100000 in
set_option maxHeartbeats 2000000 in
theorem made_calls (w : World) (N : Int) (n b : Nat) (hn : (n : Int) = max 0 (min N 4060)) (hb : b < 256) (hN : -1000000 ≤ N ∧ N ≤ 1000000) :
    Calls Tryd.prog 23 #[.int .i64 N, .int .u8 b] w fun e w' => e = .returned (.string (madeOf n b)) ∧ Below w.heap.size w w' := by
  obtain ⟨i0, hi, hz0, hz1, hz2⟩ := info_parts Tryd.infob
  have hn2 : n ≤ 4060 := by omega
  have HN := Lib.hid hn
  clear hn
  go_enter Tryd.func23, Tryd.ntmps23
  go_wp2_with (refine wpList_make_full _ rfl (.tmp 11) (.tmp 11) 89 rfl 0 5 i0 (.int .u8 0) 1 Tryd.underlying89 hi hz0 hz1 .i64 .i64 _ _ n rfl rfl HN.out.symm HN.out.symm ?_ ?_ (Nat.zero_le _) ?_)
  case refine_1 => rw [hz2]; omega
  case refine_2 => unfold maxLen; omega
  case refine_3 =>
    intro w1 hown hgrow
    have hrow : ∃ cur, RowAt w1 w.heap.size 5 cur ∧ cur.size = n := by
      rcases hown.2 with ⟨h, _⟩ | ⟨g, cap, cur, h, _, hg, _, _, hsz, _⟩
      · cases h
      · injection h with h1 h2 h3
        injection h1 with h1; injection h1 with h1
        subst h1 h3
        exact ⟨cur, hg, by omega⟩
    have hB : Below w.heap.size w w1 := (Below.refl _ _).grown hgrow (Nat.le_refl _) (fun k hk => by cases hk)
    have HR := Lib.hid hrow
    have HB := Lib.hid hB
    clear hown hgrow hrow hB
    go_wp2_with fail
    go_loopw [6] (fun i wr => ∃ k : Nat, k ≤ n ∧ i = .int .i64 k ∧ (∃ cur, RowAt wr w.heap.size 5 cur ∧ cur.size = n ∧ ∀ j, j < k → cur[j]? = some (byteV (b + j % 7).toUInt8)) ∧ Below w.heap.size w wr) (fun i _ => n - (intOf i).toNat)
    case atStart =>
      obtain ⟨cur, h1, h2⟩ := HR.out
      exact ⟨0, Nat.zero_le _, rfl, ⟨cur, h1, h2, fun j hj => by omega⟩, HB.out⟩
    case round =>
      obtain ⟨k, hk, rfl, ⟨cur, h1, h2, h3⟩, hB⟩ := hrel
      have H3 := Lib.hid h3
      have HBr := Lib.hid hB
      clear h3 hB
      by_cases hlt : k < n
      · obtain ⟨cv, hcv⟩ : ∃ cv, cur[k]? = some cv := ⟨_, Array.getElem?_eq_getElem (show k < cur.size by omega)⟩
        have hc := h1.cell k
        rw [hcv] at hc
        have hf := h1.frozen k
        have H1 := Lib.hid h1
        have H2 := Lib.hid h2
        clear h1 h2 hcv
        go_wp2_with fail
        refine ⟨⟨k + 1, by omega, by go_num, ⟨_, H1.out.setCell _ _, by simp [H2.out], fun j hj => ?_⟩, HBr.out.setCell (Nat.le_refl _) _⟩, by simp [intOf]; omega⟩
        by_cases e : j = k
        · subst e
          rw [byteV_mod]
          have : j < cur.size := by rw [H2.out]; exact hlt
          simp [this]
        · rw [Array.getElem?_setIfInBounds_ne (by omega)]
          exact H3.out j (by omega)
      · obtain rfl : k = n := by omega
        have hrow : ByteRow wr (.slice (some ⟨w.heap.size, 0, none⟩) k k) (bodyOf k b) := by
          have hl : (bodyOf k b).length = k := by simp [bodyOf]
          refine ⟨by simp, .inr ⟨w.heap.size, k, cur, by rw [hl], Nat.zero_le _, h1, by omega, by unfold maxLen; omega, by omega, ?_⟩⟩
          apply List.ext_getElem?
          intro j
          rw [hl, Nat.mul_one, List.getElem?_take]
          by_cases hj : j < k
          · rw [if_pos hj, Array.getElem?_toList, H3.out j hj]
            simp [bodyOf, hj]
          · rw [if_neg hj, List.getElem?_eq_none (by rw [List.length_map, hl]; omega)]
        have hcv := hrow.text
        have hbs : (⟨(bodyOf k b).toArray⟩ : ByteArray).size ≤ 4060 := by rw [show (⟨(bodyOf k b).toArray⟩ : ByteArray).size = (bodyOf k b).length from mk_size0 _]; simp [bodyOf]; omega
        have HM := Lib.hid (show madeOf k b = make4 ⟨#[97, 98, 99, 100]⟩ ⟨#[101, 102, 103, 104]⟩ b ⟨(bodyOf k b).toArray⟩ from rfl)
        clear h1 h2 hrow
        generalize (⟨(bodyOf k b).toArray⟩ : ByteArray) = T at *
        go_wp2_with fail
        refine (rmake4_calls _ ⟨#[97, 98, 99, 100]⟩ ⟨#[101, 102, 103, 104]⟩ T b hb (by decide) (by decide) hbs).mono ?_
        rintro e w2 ⟨rfl, hB2⟩
        have HB2 := Lib.hid hB2
        clear hB2
        rw [← HM.out]
        go_wp2_with fail
        go_ret
        exact ⟨rfl, HBr.out.trans (HB2.out.mono HBr.out.size)⟩

end Go.Proofs.YtmfpmgelhhbfiaaDoor
