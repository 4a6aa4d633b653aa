/- A frame's datagrams, and its padding. -/
import Derived.Test.YtmfpmgelhhbfiaaDoorFpar
namespace Go.Proofs.YtmfpmgelhhbfiaaDoor
open Go.RowKit

def padN (n : Nat) (ds : List ByteArray) : Nat := if tot ds = 0 then 191 else 190 - (tot ds - 1) / n
theorem padN_le (n : Nat) (ds : List ByteArray) : padN n ds ≤ 191 := by unfold padN; split; decide; exact Nat.le_trans (Nat.sub_le _ _) (by decide)

set_option maxRecDepth 100000 in
set_option maxHeartbeats 1000000 in
theorem padding_calls {w : World} {fb n cols cut : Nat} {ds : List ByteArray} {S : Nat → Prop} (h : FrameAt w fb n cols cut ds S) :
    Calls Tryd.prog 27 #[.pointer (some ⟨fb, 0, none⟩)] w fun e w' => e = .returned (.int .i64 (padN n ds)) ∧ ∃ q, w' = w.drewN q := by
  obtain ⟨⟨rb, v, old, B, h1, _⟩, _⟩ := h
  have hn := h1.most
  have hp := h1.pos
  have hm2 : n * cols ≤ 191 * n := by rw [Nat.mul_comm 191]; exact Nat.mul_le_mul_left _ h1.wide
  have hf := h1.fits
  have c4 : w.cell? ⟨fb, 4, none⟩ = some (.int .i64 (tot ds)) := h1.row.cell 4
  have c0 : w.cell? ⟨fb, 0, none⟩ = some (.int .i64 n) := h1.row.cell 0
  have hP := Lib.hid (show padN n ds = if tot ds = 0 then 191 else 190 - (tot ds - 1) / n from rfl)
  clear h1
  generalize tot ds = t at *
  generalize padN n ds = pd at *
  by_cases ht : t = 0
  · subst ht
    have hP := hP.out
    rw [if_pos rfl] at hP
    subst hP
    go_enter Tryd.func27, Tryd.ntmps27
    go_wp2_with fail
    go_ret
    exact ⟨rfl, 0, rfl⟩
  · have hP := hP.out
    rw [if_neg ht] at hP
    have HP := Lib.hid hP
    clear hP
    have h2 : (t - 1) / n < 191 := by rw [Nat.div_lt_iff_lt_mul hp]; omega
    have g1 : ((t : Int) == 0) = false := by simp; omega
    have hq2 : (t - 1) / n < 2 ^ 53 := by omega
    have hc2 : ∀ W : World, (convert 97 3 (.float .f64 (Zf.fl ((t - 1) / n)))).run Tryd.prog W = .ok (.int .i64 ((t - 1) / n : Nat)) W := fun W =>
      run_convert_float_int W _ _ .f64 .i64 _ _ (by kernel_rfl) Tryd.underlying3 (int_of_fl _ hq2)
    clear hq2
    go_enter Tryd.func27, Tryd.ntmps27
    go_wp2_with fail
    refine (frame_spot _ fb n (t - 1) _ (by omega) hp hn (by omega) c0).mono ?_
    rintro e w2 ⟨rfl, q, rfl⟩
    generalize Zf.fl ((t - 1) / n) = x2 at *
    generalize Zf.fl ((t - 1) % n) = x1 at *
    generalize (t - 1) / n = c at *
    go_wp2_with fail
    go_ret
    refine ⟨?_, q, rfl⟩
    rw [HP.out]
    show Ending.returned (.int .i64 (190 - (c : Int))) = _
    rw [show ((190 - c : Nat) : Int) = 190 - (c : Int) by omega]

/-- A new row of placed datagrams. -/
def NewPlaced (w : World) (l : List (Nat × ByteArray)) (e : Ending) (w' : World) : Prop := ∃ v, e = .returned v ∧ FPlaced w' v l ∧ Below w.heap.size w w' ∧ ∀ k, v.ownBlock = some k → w.heap.size ≤ k

set_option maxRecDepth 100000 in
set_option maxHeartbeats 1000000 in
theorem clone_calls (w : World) (v : Value) (l : List (Nat × ByteArray)) (h : FPlaced w v l) (hl : l.length < 1000000) :
    Calls Tryd.prog 28 #[v] w (NewPlaced w l) := by
  obtain ⟨i0, hi, hz0, hz1, hz2⟩ := info_parts Tryd.infofp
  rcases h.2 with ⟨rfl, h0⟩ | ⟨g, cap, cur, rfl, _, hg, hc, hcm, hsz, htk⟩
  · obtain rfl : l = [] := List.eq_nil_of_length_eq_zero h0
    clear h
    have he : ∀ W : World, (binOp .eql 33 (.slice none 0 0) (.slice none 0 0)).run Tryd.prog W = .ok (.bool true) W := fun W => run_eql_nil_slice W _ _ none 0 0 0 0 Tryd.underlying33
    go_enter Tryd.func28, Tryd.ntmps28
    go_wp2_with fail
    go_ret
    exact ⟨_, rfl, FPlaced.nil _, Below.refl _ _, fun k hk => by cases hk⟩
  · have hr : RowAt w g 40 cur := hg
    have hr2 := hr.alloc (.cells #[] 40)
    have hsrc : ∀ j u, (placedCells l)[j]? = some u → (w.alloc (.cells #[] 40)).cell? ((⟨g, 0, none⟩ : Addr).add j) = some u := by
      intro j u hj
      rw [show (⟨g, 0, none⟩ : Addr).add j = ⟨g, j, none⟩ by unfold Addr.add; split <;> simp_all, hr2.cell]
      rw [← htk, List.getElem?_take] at hj
      split at hj
      · rw [Array.getElem?_toList] at hj; exact hj
      · cases hj
    have hone : ∀ u ∈ placedCells l, u.oneCell' = true := by
      intro u hu
      obtain ⟨x, _, hx⟩ := List.mem_flatMap.1 hu
      simp at hx
      rcases hx with rfl | rfl <;> rfl
    have hown := World.ownsRow_made (base := 0) (e := 40) (size := 2) w #[] 0 (Nat.zero_le _) (by unfold maxLen; omega) (by simp)
    have hpl := placedCells_len l
    have HS := Lib.hid hsrc
    have HO := Lib.hid hone
    have HW := Lib.hid hown
    have HPL := Lib.hid hpl
    have hlt := hr.lt
    clear h hg hr hr2 hsrc hone hown hpl htk hsz
    have he : ∀ W : World, (binOp .eql 33 (.slice (some ⟨g, 0, none⟩) l.length cap) (.slice none 0 0)).run Tryd.prog W = .ok (.bool false) W := fun W => Lib.run_eql_slice_nil W _ _ (some ⟨g, 0, none⟩) l.length cap 0 0 Tryd.underlying33
    go_enter Tryd.func28, Tryd.ntmps28
    go_wp2_with (at_builtin; refine wpList_append_own_at _ rfl _ _ 33 rfl 0 40 i0 (.agg #[.int .i64 0, .string ⟨#[]⟩]) 2 24 Tryd.underlying33 hi hz0 hz1 hz2 rfl (by decide) _ _ _ rfl HW.out ⟨g, 0, none⟩ l.length cap (placedCells l) rfl HPL.out HS.out HO.out ?_ ?_ (Nat.zero_le _) ?_)
    case refine_1 => unfold maxLen; omega
    case refine_2 => omega
    case refine_3 =>
      intro v' w3 hown1 hgrow _ hloc
      have hP : FPlaced w3 v' l := by
        unfold FPlaced
        exact hown1
      have hB : Below w.heap.size w w3 := ((Below.refl _ w).alloc (Nat.le_refl _) _).grown hgrow (by simp) (fun k hk => by cases hk; exact Nat.le_refl _)
      have ho : ∀ k, v'.ownBlock = some k → w.heap.size ≤ k := by
        intro k hk
        rcases hloc with h | h
        · rw [h] at hk; cases hk; exact Nat.le_refl _
        · rw [h] at hk; cases hk; simp
      have H1 := Lib.hid hP
      have H2 := Lib.hid hB
      have H3 := Lib.hid ho
      clear hown1 hgrow hloc hP hB ho
      go_wp2_with fail
      go_ret
      exact ⟨_, rfl, H1.out, H2.out, H3.out⟩

set_option maxRecDepth 100000 in
set_option maxHeartbeats 1000000 in
theorem placed_calls {w : World} {fb n cols cut : Nat} {ds : List ByteArray} {S : Nat → Prop} (h : FrameAt w fb n cols cut ds S) :
    Calls Tryd.prog 8 #[.pointer (some ⟨fb, 0, none⟩)] w (NewPlaced w (plc 0 ds)) := by
  obtain ⟨⟨rb, v, old, B, h1, _⟩, _⟩ := h
  have c3 : w.cell? ⟨fb, 3, none⟩ = some v := h1.row.cell 3
  have hl : (plc 0 ds).length < 1000000 := by rw [plc_len]; exact h1.few
  have H := Lib.hid (clone_calls w v (plc 0 ds) h1.placed hl)
  have hsl : ∃ a m, v = .slice a (plc 0 ds).length m := by
    rcases h1.placed.2 with ⟨h, h0⟩ | ⟨g, cap, cur, h, _⟩
    · exact ⟨_, _, by rw [h, h0]⟩
    · exact ⟨_, _, h⟩
  obtain ⟨va, vm, rfl⟩ := hsl
  clear h1 hl
  generalize plc 0 ds = PL at *
  go_enter Tryd.func8, Tryd.ntmps8
  go_wp2_with fail
  refine H.out.mono ?_
  rintro e w1 ⟨u, rfl, hP, hB, ho⟩
  have H1 := Lib.hid hP
  have H2 := Lib.hid hB
  have H3 := Lib.hid ho
  clear hP hB ho
  go_wp2_with fail
  go_ret
  exact ⟨_, rfl, H1.out, H2.out, H3.out⟩
end Go.Proofs.YtmfpmgelhhbfiaaDoor
