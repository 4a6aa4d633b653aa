/- A frame's bytes, reckoned. -/
import Derived.Test.YtmfpmgelhhbfiaaDoorEncp
import Derived.Test.YtmfpmgelhhbfiaaDoorSafep
namespace Go.Proofs.YtmfpmgelhhbfiaaDoor
open Go.RowKit

def catB (ds : List ByteArray) : ByteArray := ⟨(ds.flatMap (·.data.toList)).toArray⟩
theorem catB_size (ds : List ByteArray) : (catB ds).size = tot ds := by
  have : ∀ l : List ByteArray, (l.flatMap (·.data.toList)).length = tot l := by
    intro l
    induction l with
    | nil => rfl
    | cons d l ih => rw [List.flatMap_cons, List.length_append, ih, tot_cons, ba_size]
  show (ds.flatMap (·.data.toList)).toArray.size = _
  rw [List.size_toArray, this]
theorem sb_catB (ds : List ByteArray) (d : ByteArray) (i : Nat) : sb (catB (ds ++ [d])) i = if i < tot ds then sb (catB ds) i else sb d (i - tot ds) := by
  have hs := catB_size ds
  rw [ba_size] at hs
  have hl : (ds.flatMap (·.data.toList)).length = tot ds := hs
  unfold sb catB
  simp only [List.flatMap_append, List.flatMap_cons, List.flatMap_nil, List.append_nil, List.getD_eq_getElem?_getD]
  by_cases h : i < tot ds
  · rw [if_pos h, List.getElem?_append_left (by omega)]
  · rw [if_neg h, List.getElem?_append_right (by omega), hl]
/-- A frame's byte of data. -/
def dataB (n : Nat) (ds : List ByteArray) (r c : Nat) : Nat := sb (catB ds) (c * n + r)
theorem dataB_lt (n : Nat) (ds : List ByteArray) (r c : Nat) : dataB n ds r c < 256 := sb_lt _ _
theorem dataB_nil (n r c : Nat) : dataB n [] r c = 0 := rfl
/-- A row's parity. -/
def parB (n : Nat) (ds : List ByteArray) (r j : Nat) : Nat := encR (fun c => dataB n ds r c) 191 j
theorem parB_lt (n : Nat) (ds : List ByteArray) (r j : Nat) : parB n ds r j < 256 := encR_lt _ _ _
theorem encR_zero (k : Nat) : encR (fun _ => 0) k = fun _ => 0 := by
  induction k with
  | zero => rfl
  | succ k ih =>
    rw [encR, ih]
    funext j
    rw [show (0 ^^^ 0 : Nat) = 0 from rfl, encStep_zero]
    unfold shl0; split <;> rfl
theorem parB_nil (n r j : Nat) : parB n [] r j = 0 := by
  unfold parB
  rw [show (fun c => dataB n [] r c) = fun _ => 0 from rfl, encR_zero]
/-- A frame behind one more datagram. -/
theorem dataB_snoc {n : Nat} {ds : List ByteArray} {d : ByteArray} {r c : Nat} (hc : c < 191) (B : Nat → Nat → Nat) (hB : B r c = dataB n ds r c) : putB n (tot ds) d.size (sb d) B r c = dataB n (ds ++ [d]) r c := by
  unfold putB
  have hz := catB_size ds
  by_cases g : tot ds ≤ c * n + r ∧ c * n + r < tot ds + d.size ∧ c < 191
  · rw [if_pos g]
    unfold dataB
    rw [sb_catB, if_neg (by omega)]
  · rw [if_neg g, hB]
    unfold dataB
    rw [sb_catB]
    by_cases h : c * n + r < tot ds
    · rw [if_pos h]
    · rw [if_neg h, sb_zero (by omega), sb_zero (by omega)]

/-- Block rb holds n rows of 255 bytes. -/
def FRows (w : World) (rb n : Nat) (B : Nat → Nat → Nat) : Prop :=
  ∃ cur, RowAt w rb 96 cur ∧ cur.size = n * 255 ∧ ∀ r c, r < n → c < 255 → cur[r * 255 + c]? = some (.int .u8 (B r c : Nat))
section
variable {w w' : World} {rb n : Nat} {B B' : Nat → Nat → Nat}
theorem FRows.lt (h : FRows w rb n B) : rb < w.heap.size := let ⟨_, h, _⟩ := h; h.lt
theorem FRows.frm {S : Nat → Prop} (h : FRows w rb n B) (f : Frm S w w') (hs : ¬ S rb) : FRows w' rb n B :=
  let ⟨cur, h1, h2⟩ := h; ⟨cur, h1.frm f hs, h2⟩
theorem FRows.drewN (h : FRows w rb n B) (q : Nat) : FRows (w.drewN q) rb n B := h
theorem FRows.drew (h : FRows w rb n B) : FRows w.drew rb n B := h
theorem FRows.byte (h : FRows w rb n B) {r c : Nat} (hr : r < n) (hc : c < 255) : w.cell? ⟨rb, r * 255 + c, none⟩ = some (.int .u8 (B r c : Nat)) := by
  obtain ⟨cur, h1, _, h2⟩ := h
  rw [h1.cell]; exact h2 r c hr hc
theorem FRows.frozen (h : FRows w rb n B) (o : Nat) : w.frozen? ⟨rb, o, none⟩ = false := by
  obtain ⟨cur, h1, _⟩ := h
  exact h1.frozen o
theorem FRows.congr (h : FRows w rb n B) (hb : ∀ r c, r < n → c < 255 → B' r c = B r c) : FRows w rb n B' := by
  obtain ⟨cur, h1, h2, h3⟩ := h
  exact ⟨cur, h1, h2, fun r c hr hc => by rw [hb r c hr hc]; exact h3 r c hr hc⟩
theorem FRows.put (h : FRows w rb n B) {r0 c0 : Nat} (hr : r0 < n) (hc : c0 < 255) (v : Nat) :
    FRows (w.setCell ⟨rb, r0 * 255 + c0, none⟩ (.int .u8 (v : Nat))) rb n (fun r c => if r = r0 ∧ c = c0 then v else B r c) := by
  obtain ⟨cur, h1, h2, h3⟩ := h
  refine ⟨_, h1.setCell _ _, by simp [h2], fun r c hr1 hc1 => ?_⟩
  have g1 := h3 r c hr1 hc1
  dsimp only
  by_cases e : r = r0 ∧ c = c0
  · obtain ⟨rfl, rfl⟩ := e
    have hlt : r * 255 + c < cur.size := by rw [h2]; omega
    simp [hlt]
  · rw [if_neg e, Array.getElem?_setIfInBounds_ne (by omega)]; exact g1
theorem frows_made (h : RowAt w rb 96 (madeCells (Array.replicate 255 (.int .u8 0)) (n * 255))) : FRows w rb n (fun _ _ => 0) := by
  refine ⟨_, h, by rw [size_madeCells], fun r c hr hc => ?_⟩
  refine made_at _ _ _ _ (by omega) ?_
  rw [Array.size_replicate, show (r * 255 + c) % 255 = c by omega]
  simp [hc]
end
end Go.Proofs.YtmfpmgelhhbfiaaDoor
