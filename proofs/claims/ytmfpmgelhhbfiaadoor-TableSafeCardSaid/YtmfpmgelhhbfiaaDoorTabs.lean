/- A table's calls, said of the whole table. -/
import Derived.Test.YtmfpmgelhhbfiaaDoorNewt
import Derived.Test.YtmfpmgelhhbfiaaDoorTold
namespace Go.Proofs.YtmfpmgelhhbfiaaDoor
open Go.RowKit

theorem pad_table {w : World} {tb n : Nat} {B : Nat → Nat → Nat} {K : Nat → Nat → Bool} {l : List Nat} {S : Nat → Prop} (h : TableAt w tb n B K l S) (cols : Nat) (ci : Int) (hci : ci = cols) (hc : cols ≤ 191) :
    Calls Tryd.prog 20 #[.pointer (some ⟨tb, 0, none⟩), .int .i64 ci] w (TableTurned w tb n B (padK cols K) l S) := by
  subst hci
  obtain ⟨⟨rb, v, h1, h2, h3, h4, h5, h6, h7, h8, h9⟩, hf, a, b, c, d⟩ := h
  refine (pad_any w tb rb n cols B K a b hc (fun e => h1 e.symm) (h2.cell 0) h3).mono ?_
  rintro e w' ⟨rfl, k1, k2⟩
  have hS : Frm S w w' := k2.mono (fun k _ hk => by cases hk; exact h8)
  refine ⟨rfl, S, ⟨⟨rb, v, h1, h2.frm k2 (fun e => h1 e.symm), k1, h4.frm k2 (fun k hk e => h6 (by rw [hk, e])), h5, h6, h7, h8, h9⟩, fun k hk => hS.lt (hf k hk), a, b, c, d⟩, hS, fun k hk => .inl hk⟩

theorem lost_table {w : World} {tb n : Nat} {B : Nat → Nat → Nat} {K : Nat → Nat → Bool} {l : List Nat} {S : Nat → Prop} (h : TableAt w tb n B K l S) (r : Nat) (ri : Int) (hri : ri = r) (hr : r < n) :
    Calls Tryd.prog 13 #[.pointer (some ⟨tb, 0, none⟩), .int .i64 ri] w fun e w' => e = .returned (.tuple #[.int .i64 (lostOf K r).length, .int .i64 0]) ∧ Below w.heap.size w w' := by
  subst hri
  obtain ⟨⟨rb, v, h1, h2, h3, h4, h5, h6, h7, h8, h9⟩, hf, a, b, c, d⟩ := h
  exact lost_calls w tb rb n r B K hr h3 (h2.cell 0)

theorem out_table {w : World} {tb n : Nat} {B : Nat → Nat → Nat} {K : Nat → Nat → Bool} {l : List Nat} {S : Nat → Prop} (h : TableAt w tb n B K l S) (hB : ∀ r c, B r c < 256) (hl : ∀ q, q ∈ l → q ≤ 191 * n) :
    Calls Tryd.prog 9 #[.pointer (some ⟨tb, 0, none⟩)] w (OutPost w n B K l) := by
  obtain ⟨⟨rb, v, h1, h2, h3, h4, h5, h6, h7, h8, h9⟩, hf, a, b, c, d⟩ := h
  exact out_any w tb rb n v B K l hB a b (h2.cell 0) (h2.cell 1) h3 h4 c d hl

theorem TableAt.below {w w' : World} {tb n : Nat} {B : Nat → Nat → Nat} {K : Nat → Nat → Bool} {l : List Nat} {S : Nat → Prop} (h : TableAt w tb n B K l S) (f : Below w.heap.size w w') : TableAt w' tb n B K l S :=
  h.frm (Frm.of_below f) (fun k hk e => by have := h.foot k hk; omega)

end Go.Proofs.YtmfpmgelhhbfiaaDoor
