/- Package gf: the numbers of a byte in memory. -/
import Derived.Test.YtmfpmgelhhbfiaaDoorGfp
import Derived.Test.YtmfpmgelhhbfiaaDoorMem
import Derived.Test.YtmfpmgelhhbfiaaDoorBits
import Derived.Test.YtmfpmgelhhbfiaaDoorGram
namespace Go.Proofs.YtmfpmgelhhbfiaaDoor
open Go.RowKit

/-- A field in memory: the powers of 2 twice over, and the logarithms. -/
def FieldTo (w : World) (fb k : Nat) : Prop :=
  ∃ cur, RowAt w fb 147 cur ∧ cur.size = 766 ∧ (∀ i, i < 255 → cur[i]? = some (.int .u8 (if i < k then pw i else 0 : Nat)) ∧ cur[255 + i]? = some (.int .u8 (if i < k then pw i else 0 : Nat))) ∧
    ∀ v, v < 256 → cur[510 + v]? = some (.int .i64 (lgTo k v : Nat))
def FieldAt (w : World) (fb : Nat) : Prop :=
  ∃ cur, RowAt w fb 147 cur ∧ (∀ i, i < 510 → cur[i]? = some (.int .u8 (pw i : Nat))) ∧ ∀ v, v < 256 → cur[510 + v]? = some (.int .i64 (lg v : Nat))

theorem FieldTo.at_ {w : World} {fb : Nat} (h : FieldTo w fb 255) : FieldAt w fb := by
  obtain ⟨cur, h1, _, h2, h3⟩ := h
  refine ⟨cur, h1, fun i hi => ?_, fun v hv => by rw [h3 v hv, lgTo_end v hv]⟩
  by_cases h : i < 255
  · rw [(h2 i h).1, if_pos h]
  · have := (h2 (i - 255) (by omega)).2
    rw [show 255 + (i - 255) = i by omega, if_pos (by omega)] at this
    rw [this, ← pw_period (i - 255), show i - 255 + 255 = i by omega]
theorem FieldAt.frm {S : Nat → Prop} {w w' : World} {fb : Nat} (h : FieldAt w fb) (f : Frm S w w') (hs : ¬ S fb) : FieldAt w' fb := let ⟨cur, h1, h2⟩ := h; ⟨cur, h1.frm f hs, h2⟩
theorem FieldAt.lt {w : World} {fb : Nat} (h : FieldAt w fb) : fb < w.heap.size := let ⟨_, h1, _⟩ := h; h1.lt
theorem FieldAt.below {w w' : World} {fb B : Nat} (h : FieldAt w fb) (hb : Below B w w') (hf : fb < B) : FieldAt w' fb := h.frm (Frm.of_below hb) (by omega)
theorem FieldAt.exp {w : World} {fb : Nat} (h : FieldAt w fb) {i : Nat} (hi : i < 510) : w.cell? ⟨fb, i, none⟩ = some (.int .u8 (pw i : Nat)) := by
  obtain ⟨cur, h1, h2, _⟩ := h
  rw [h1.cell]; exact h2 i hi
theorem FieldAt.log {w : World} {fb : Nat} (h : FieldAt w fb) {v : Nat} (hv : v < 256) : w.cell? ⟨fb, 510 + v, none⟩ = some (.int .i64 (lg v : Nat)) := by
  obtain ⟨cur, h1, _, h2⟩ := h
  rw [h1.cell]; exact h2 v hv

theorem zero147 : Tryd.zeroCells147 = Array.replicate 510 (.int .u8 0) ++ Array.replicate 256 (.int .i64 0) := by kernel_rfl
theorem FieldTo.start (w : World) : FieldTo (w.alloc (.cells Tryd.zeroCells147 147)) w.heap.size 0 := by
  refine ⟨_, RowAt.new w _ _, by rw [zero147]; simp, fun i hi => ?_, fun v hv => ?_⟩
  · rw [zero147]
    constructor
    · rw [Array.getElem?_append_left (by simp; omega)]; simp [show i < 510 by omega]
    · rw [Array.getElem?_append_left (by simp; omega)]; simp [show 255 + i < 510 by omega]
  · rw [zero147, Array.getElem?_append_right (by simp)]
    simp [hv, lgTo]
theorem FieldTo.cells {w : World} {fb k : Nat} (h : FieldTo w fb k) (hk : k < 255) : (∃ v, w.cell? ⟨fb, k, none⟩ = some v) ∧ w.frozen? ⟨fb, k, none⟩ = false ∧ (∃ v, w.cell? ⟨fb, k + 255, none⟩ = some v) ∧ w.frozen? ⟨fb, k + 255, none⟩ = false ∧
    (∃ v, w.cell? ⟨fb, 510 + pw k, none⟩ = some v) ∧ w.frozen? ⟨fb, 510 + pw k, none⟩ = false := by
  obtain ⟨cur, h1, h2, h3, h4⟩ := h
  exact ⟨⟨_, (h1.cell _).trans (h3 k hk).1⟩, h1.frozen _, ⟨.int .u8 (if k < k then pw k else 0 : Nat), (h1.cell _).trans (by rw [Nat.add_comm]; exact (h3 k hk).2)⟩, h1.frozen _, ⟨_, (h1.cell _).trans (h4 _ (pw_lt k))⟩, h1.frozen _⟩
/-- A round. -/
theorem FieldTo.next {w : World} {fb k : Nat} (h : FieldTo w fb k) (hk : k < 255) :
    FieldTo (((w.setCell ⟨fb, k, none⟩ (.int .u8 (pw k : Nat))).setCell ⟨fb, k + 255, none⟩ (.int .u8 (pw k : Nat))).setCell ⟨fb, 510 + pw k, none⟩ (.int .i64 (k : Nat))) fb (k + 1) := by
  obtain ⟨cur, h1, h2, h3, h4⟩ := h
  have hp := pw_lt k
  refine ⟨_, ((h1.setCell _ _).setCell _ _).setCell _ _, by simp [h2], fun i hi => ?_, fun v hv => ?_⟩
  · constructor
    · rw [Array.getElem?_setIfInBounds_ne (by omega), Array.getElem?_setIfInBounds_ne (by omega)]
      by_cases e : i = k
      · subst e
        rw [if_pos (by omega), Array.getElem?_setIfInBounds_self]
        simp [show i < cur.size by omega]
      · rw [Array.getElem?_setIfInBounds_ne (by omega), (h3 i hi).1]
        by_cases g : i < k
        · rw [if_pos g, if_pos (by omega)]
        · rw [if_neg g, if_neg (by omega)]
    · rw [Array.getElem?_setIfInBounds_ne (by omega)]
      by_cases e : i = k
      · subst e
        rw [if_pos (by omega), Nat.add_comm, Array.getElem?_setIfInBounds_self]
        simp; omega
      · rw [Array.getElem?_setIfInBounds_ne (by omega), Array.getElem?_setIfInBounds_ne (by omega), (h3 i hi).2]
        by_cases g : i < k
        · rw [if_pos g, if_pos (by omega)]
        · rw [if_neg g, if_neg (by omega)]
  · rw [lgTo]
    by_cases e : v = pw k
    · subst e
      rw [if_pos rfl, Array.getElem?_setIfInBounds_self]
      simp [show 510 + pw k < cur.size by omega]
    · rw [if_neg e, Array.getElem?_setIfInBounds_ne (by omega), Array.getElem?_setIfInBounds_ne (by omega), Array.getElem?_setIfInBounds_ne (by omega)]
      exact h4 v hv

end Go.Proofs.YtmfpmgelhhbfiaaDoor
