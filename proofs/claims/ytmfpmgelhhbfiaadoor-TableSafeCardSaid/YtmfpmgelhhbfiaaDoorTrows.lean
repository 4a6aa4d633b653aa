/- A table's rows in memory. -/
import Derived.Test.YtmfpmgelhhbfiaaDoorSpot
import Derived.Test.YtmfpmgelhhbfiaaDoorMem
namespace Go.Proofs.YtmfpmgelhhbfiaaDoor
open Go.RowKit

/-- Block rb holds n rows of 255 bytes and 255 bools. -/
def RowsAt (w : World) (rb n : Nat) (B : Nat → Nat → Nat) (K : Nat → Nat → Bool) : Prop :=
  ∃ cur, RowAt w rb 84 cur ∧ cur.size = n * 510 ∧
    ∀ r c, r < n → c < 255 → cur[r * 510 + c]? = some (.int .u8 (B r c : Nat)) ∧ cur[r * 510 + 255 + c]? = some (.bool (K r c))

section
variable {w w' : World} {rb n : Nat} {B B' : Nat → Nat → Nat} {K K' : Nat → Nat → Bool}
theorem RowsAt.lt (h : RowsAt w rb n B K) : rb < w.heap.size := let ⟨_, h, _⟩ := h; h.lt
theorem RowsAt.frm {S : Nat → Prop} (h : RowsAt w rb n B K) (f : Frm S w w') (hs : ¬ S rb) : RowsAt w' rb n B K :=
  let ⟨cur, h1, h2⟩ := h; ⟨cur, h1.frm f hs, h2⟩
theorem RowsAt.drewN (h : RowsAt w rb n B K) (q : Nat) : RowsAt (w.drewN q) rb n B K := h
theorem RowsAt.byte (h : RowsAt w rb n B K) {r c : Nat} (hr : r < n) (hc : c < 255) : w.cell? ⟨rb, r * 510 + c, none⟩ = some (.int .u8 (B r c : Nat)) := by
  obtain ⟨cur, h1, _, h2⟩ := h
  rw [h1.cell]; exact (h2 r c hr hc).1
theorem RowsAt.known (h : RowsAt w rb n B K) {r c : Nat} (hr : r < n) (hc : c < 255) : w.cell? ⟨rb, r * 510 + 255 + c, none⟩ = some (.bool (K r c)) := by
  obtain ⟨cur, h1, _, h2⟩ := h
  rw [h1.cell]; exact (h2 r c hr hc).2
theorem RowsAt.frozen (h : RowsAt w rb n B K) (o : Nat) : w.frozen? ⟨rb, o, none⟩ = false := by
  obtain ⟨cur, h1, _⟩ := h
  exact h1.frozen o
theorem RowsAt.congr (h : RowsAt w rb n B K) (hb : ∀ r c, r < n → c < 255 → B' r c = B r c) (hk : ∀ r c, r < n → c < 255 → K' r c = K r c) : RowsAt w rb n B' K' := by
  obtain ⟨cur, h1, h2, h3⟩ := h
  exact ⟨cur, h1, h2, fun r c hr hc => by rw [hb r c hr hc, hk r c hr hc]; exact h3 r c hr hc⟩
/-- A byte is set. -/
theorem RowsAt.put (h : RowsAt w rb n B K) {r0 c0 : Nat} (hr : r0 < n) (hc : c0 < 255) (v : Nat) :
    RowsAt (w.setCell ⟨rb, r0 * 510 + c0, none⟩ (.int .u8 (v : Nat))) rb n (fun r c => if r = r0 ∧ c = c0 then v else B r c) K := by
  obtain ⟨cur, h1, h2, h3⟩ := h
  refine ⟨_, h1.setCell _ _, by simp [h2], fun r c hr1 hc1 => ?_⟩
  obtain ⟨g1, g2⟩ := h3 r c hr1 hc1
  dsimp only
  constructor
  · by_cases e : r = r0 ∧ c = c0
    · obtain ⟨rfl, rfl⟩ := e
      have hlt : r * 510 + c < cur.size := by rw [h2]; omega
      simp [hlt]
    · rw [if_neg e, Array.getElem?_setIfInBounds_ne (by omega)]; exact g1
  · rw [Array.getElem?_setIfInBounds_ne (by omega)]; exact g2
/-- A mark is set. -/
theorem RowsAt.mark (h : RowsAt w rb n B K) {r0 c0 : Nat} (hr : r0 < n) (hc : c0 < 255) (v : Bool) :
    RowsAt (w.setCell ⟨rb, r0 * 510 + 255 + c0, none⟩ (.bool v)) rb n B (fun r c => if r = r0 ∧ c = c0 then v else K r c) := by
  obtain ⟨cur, h1, h2, h3⟩ := h
  refine ⟨_, h1.setCell _ _, by simp [h2], fun r c hr1 hc1 => ?_⟩
  obtain ⟨g1, g2⟩ := h3 r c hr1 hc1
  dsimp only
  constructor
  · rw [Array.getElem?_setIfInBounds_ne (by omega)]; exact g1
  · by_cases e : r = r0 ∧ c = c0
    · obtain ⟨rfl, rfl⟩ := e
      have hlt : r * 510 + 255 + c < cur.size := by rw [h2]; omega
      simp [hlt]
    · rw [if_neg e, Array.getElem?_setIfInBounds_ne (by omega)]; exact g2
end

/-- Which bytes k bytes of s, put from 'at_' on, turn. -/
def putB (n at_ k : Nat) (s : Nat → Nat) (B : Nat → Nat → Nat) (r c : Nat) : Nat := if at_ ≤ c * n + r ∧ c * n + r < at_ + k ∧ c < 191 then s (c * n + r - at_) else B r c
def putK (n at_ k : Nat) (K : Nat → Nat → Bool) (r c : Nat) : Bool := if at_ ≤ c * n + r ∧ c * n + r < at_ + k ∧ c < 191 then true else K r c

theorem place_iff {n r c p : Nat} (hr : r < n) : c * n + r = p ↔ r = p % n ∧ c = p / n := by
  constructor
  · rintro rfl
    have hn : 0 < n := by omega
    rw [Nat.mul_comm, Nat.mul_add_mod, Nat.mod_eq_of_lt hr, Nat.mul_add_div hn, Nat.div_eq_of_lt hr]
    simp
  · rintro ⟨rfl, rfl⟩
    rw [Nat.mul_comm]; exact Nat.div_add_mod p n

theorem putB_zero (n at_ : Nat) (s : Nat → Nat) (B : Nat → Nat → Nat) : putB n at_ 0 s B = B := by
  funext r c; unfold putB; rw [if_neg (by omega)]
theorem putK_zero (n at_ : Nat) (K : Nat → Nat → Bool) : putK n at_ 0 K = K := by
  funext r c; unfold putK; rw [if_neg (by omega)]
theorem putB_succ {n at_ k : Nat} {s : Nat → Nat} {B : Nat → Nat → Nat} {r c : Nat} (hr : r < n) (hp : at_ + k < 191 * n) :
    putB n at_ (k + 1) s B r c = if r = (at_ + k) % n ∧ c = (at_ + k) / n then s k else putB n at_ k s B r c := by
  have hn : 0 < n := by omega
  have hc : (at_ + k) / n < 191 := by rw [Nat.div_lt_iff_lt_mul hn]; exact hp
  have := place_iff (c := c) (p := at_ + k) hr
  unfold putB
  by_cases e : r = (at_ + k) % n ∧ c = (at_ + k) / n
  · rw [if_pos e]
    have e' := this.2 e
    rw [if_pos ⟨by omega, by omega, by omega⟩, e']
    congr 1; omega
  · rw [if_neg e]
    have e' : ¬ c * n + r = at_ + k := fun h => e (this.1 h)
    by_cases g : at_ ≤ c * n + r ∧ c * n + r < at_ + k ∧ c < 191
    · rw [if_pos g, if_pos ⟨by omega, by omega, by omega⟩]
    · rw [if_neg g, if_neg (by omega)]
theorem putK_succ {n at_ k : Nat} {K : Nat → Nat → Bool} {r c : Nat} (hr : r < n) (hp : at_ + k < 191 * n) :
    putK n at_ (k + 1) K r c = if r = (at_ + k) % n ∧ c = (at_ + k) / n then true else putK n at_ k K r c := by
  have hn : 0 < n := by omega
  have hc : (at_ + k) / n < 191 := by rw [Nat.div_lt_iff_lt_mul hn]; exact hp
  have := place_iff (c := c) (p := at_ + k) hr
  unfold putK
  by_cases e : r = (at_ + k) % n ∧ c = (at_ + k) / n
  · rw [if_pos e]
    have e' := this.2 e
    rw [if_pos ⟨by omega, by omega, by omega⟩]
  · rw [if_neg e]
    have e' : ¬ c * n + r = at_ + k := fun h => e (this.1 h)
    by_cases g : at_ ≤ c * n + r ∧ c * n + r < at_ + k ∧ c < 191
    · rw [if_pos g, if_pos ⟨by omega, by omega, by omega⟩]
    · rw [if_neg g, if_neg (by omega)]

end Go.Proofs.YtmfpmgelhhbfiaaDoor
