/- A new table. -/
import Derived.Test.YtmfpmgelhhbfiaaDoorOut
import Derived.Test.YtmfpmgelhhbfiaaDoorShelf
namespace Go.Proofs.YtmfpmgelhhbfiaaDoor
open Go.RowKit

def zrow : Value := .agg (Array.replicate 255 (.int .u8 0) ++ Array.replicate 255 (.bool false))
theorem Tryd.infor : (Tryd.prog.info? 84).map (fun i => (i.zero, i.size, i.bytes)) = some (some zrow, 510, 510) := by kernel_rfl

end Go.Proofs.YtmfpmgelhhbfiaaDoor

namespace Go.Proofs.YtmfpmgelhhbfiaaDoor
open Go.RowKit

def fourSizes : List Int := [256, 512, 768, 1024]
/-- The variable that holds how many rows there may be. -/
def SizesAt (w : World) (g : Nat) : Prop := ∀ j, j < fourSizes.length → w.cell? ⟨g, 0 + j, none⟩ = some (.int .i64 (fourSizes.getD j 0))
theorem SizesAt.below {w w' : World} {g B : Nat} (h : SizesAt w g) (hb : Below B w w') (hg : g < B) : SizesAt w' g := fun j hj => by rw [hb.cell hg]; exact h j hj
theorem SizesAt.frm {S : Nat → Prop} {w w' : World} {g : Nat} (h : SizesAt w g) (f : Frm S w w') (hg : ¬ S g) : SizesAt w' g := fun j hj => by
  have := h j hj
  rw [f.cell (World.block_lt_of_cell? w _ this) hg]; exact this

def NewTable (w : World) (n : Nat) (e : Ending) (w' : World) : Prop :=
  ∃ tb S, e = .returned (.tuple #[.pointer (some ⟨tb, 0, none⟩), .int .i64 0]) ∧ TableAt w' tb n (fun _ _ => 0) (fun _ _ => false) [] S ∧ Below w.heap.size w w' ∧ ∀ k, S k → w.heap.size ≤ k

theorem zrow_byte (c : Nat) (hc : c < 255) : (Array.replicate 255 (Value.int .u8 0) ++ Array.replicate 255 (Value.bool false))[c]? = some (.int .u8 0) := by
  rw [Array.getElem?_append_left (by simpa using hc)]; simp [hc]
theorem zrow_mark (c : Nat) (hc : c < 255) : (Array.replicate 255 (Value.int .u8 0) ++ Array.replicate 255 (Value.bool false))[255 + c]? = some (.bool false) := by
  rw [Array.getElem?_append_right (by simp)]; simp [hc]

theorem made_at (z : Array Value) (n i : Nat) (v : Value) (hi : i < n) (hz : z[i % z.size]? = some v) : (madeCells z n)[i]? = some v := by
  unfold madeCells
  simp [hi]
  rw [getElem!_def, hz]

theorem rows_made {w : World} {rb n : Nat} (h : RowAt w rb 84 (madeCells zrow.cells (n * 510))) : RowsAt w rb n (fun _ _ => 0) (fun _ _ => false) := by
  refine ⟨_, h, by rw [size_madeCells], fun r c hr hc => ?_⟩
  have hs : zrow.cells.size = 510 := by simp [zrow, Value.cells]
  constructor
  · refine made_at _ _ _ _ (by omega) ?_
    rw [hs, show (r * 510 + c) % 510 = c by omega]
    exact zrow_byte c hc
  · refine made_at _ _ _ _ (by omega) ?_
    rw [hs, show (r * 510 + 255 + c) % 510 = 255 + c by omega]
    exact zrow_mark c hc

theorem made_k {w : World} {b e s n : Nat} {v : Value} {l : List Value} {K : World → Prop} (h : ∀ w', Hid (w'.ownsRow b e s v n l) → w.grownBy w' none → K w') : ∀ w', w'.ownsRow b e s v n l → w.grownBy w' none → K w' := fun w' h1 h2 => h w' h1 h2

set_option maxRecDepth 100000 in
set_option maxHeartbeats 2000000 in
theorem new_any (w : World) (n : Nat) (hn : (n : Int) ∈ fourSizes) (hT : SizesAt w 1) :
    Calls Tryd.prog 22 #[.int .i64 n] w (NewTable w n) := by
  obtain ⟨i0, hi, hz0, hz1, hz2⟩ := info_parts Tryd.infor
  have hC := Tryd.slices_Contains_int 1 0 4 4 fourSizes n w (by decide) (by decide) hT
  have hct : (fourSizes.take 4).contains (n : Int) = true := by rw [show fourSizes.take 4 = fourSizes from rfl]; simpa using hn
  rw [hct] at hC
  have HC := Lib.hid hC
  have hb : n = 256 ∨ n = 512 ∨ n = 768 ∨ n = 1024 := by
    simp [fourSizes] at hn; omega
  have hnp : 0 < n ∧ n ≤ 1024 := by omega
  obtain ⟨hn1, hn2⟩ := hnp
  have HTT := Lib.hid hT
  clear hC hct hn hT hb
  go_enter Tryd.func22, Tryd.ntmps22
  go_wp2_with fail
  refine HC.out.mono ?_
  rintro e w1 ⟨rfl, rfl⟩
  go_wp2_with (refine wpList_make_full _ rfl (.tmp 8) (.tmp 8) 75 rfl 0 84 i0 zrow 510 Tryd.underlying75 hi hz0 hz1 .i64 .i64 _ _ n rfl rfl rfl rfl ?c1 ?c2 (Nat.zero_le _) (made_k (fun w2 hown hgrow => ?c3)))
  case c1 => rw [hz2]; omega
  case c2 => unfold maxLen; omega
  replace hown := hown.out
  have hrow : RowAt w2 w1.heap.size 84 (madeCells zrow.cells (n * 510)) := by
    rcases hown.2 with ⟨h, _⟩ | ⟨g, cap, cur, h, _, hg, _, _, hsz, htk⟩
    · cases h
    · injection h with h1 h2 h3
      injection h1 with h1; injection h1 with h1
      subst h1 h3
      have : cur = madeCells zrow.cells (n * 510) := by
        apply Array.ext'
        rw [← htk, List.take_of_length_le (by rw [Array.length_toList, hsz]; exact Nat.le_refl _)]
      rw [this] at hg; exact hg
  have hB : Below w1.heap.size w1 w2 := (Below.refl _ _).grown hgrow (Nat.le_refl _) (fun k hk => by cases hk)
  have HR := Lib.hid (rows_made hrow)
  have HB := Lib.hid hB
  have hlt := hrow.lt
  clear hown hgrow hrow hB
  go_ret2
  refine ⟨w2.heap.size, fun k => k = w1.heap.size ∨ k = w2.heap.size, rfl, ⟨⟨w1.heap.size, .slice none 0 0, by omega, RowAt.new w2 _ _, HR.out.frm ((Frm.refl (fun _ => False) w2).alloc _) (fun h => h), IntRow.nil _, by simp [Value.ownBlock], by simp [Value.ownBlock], .inr rfl, .inl rfl, fun k hk => by cases hk⟩, ?_, hn1, hn2, List.Pairwise.nil, by simp⟩, HB.out.alloc HB.out.size _, ?_⟩
  · rintro k (rfl | rfl) <;> simp <;> omega
  · rintro k (rfl | rfl) <;> omega

end Go.Proofs.YtmfpmgelhhbfiaaDoor
