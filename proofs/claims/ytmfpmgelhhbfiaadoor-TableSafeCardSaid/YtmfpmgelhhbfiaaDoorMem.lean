/- Frames: which blocks a call may turn; rows of cells. -/
import Derived.Test.YtmfpmgelhhbfiaaDoorRows
import Derived.WalkKit
import Derived.WalkSpells
import Derived.Lib.Hide
import Derived.Deep.Draws
namespace Go.Proofs.YtmfpmgelhhbfiaaDoor
open Go.RowKit

/-- Of the blocks that were there only those of S may have turned. -/
structure Frm (S : Nat → Prop) (w w' : World) : Prop where
  os : w'.os = w.os
  tape : w'.tape = w.tape
  output : w'.output = w.output
  size : w.heap.size ≤ w'.heap.size
  block : ∀ k, k < w.heap.size → ¬ S k → w'.heap[k]? = w.heap[k]?

theorem Frm.refl (S : Nat → Prop) (w : World) : Frm S w w := ⟨rfl, rfl, rfl, Nat.le_refl _, fun _ _ _ => rfl⟩
theorem Frm.trans {S : Nat → Prop} {a b c : World} (h : Frm S a b) (k : Frm S b c) : Frm S a c :=
  ⟨k.os.trans h.os, k.tape.trans h.tape, k.output.trans h.output, Nat.le_trans h.size k.size,
    fun i hi hs => (k.block i (Nat.lt_of_lt_of_le hi h.size) hs).trans (h.block i hi hs)⟩
theorem Frm.mono {S T : Nat → Prop} {a b : World} (h : Frm S a b) (hst : ∀ k, k < a.heap.size → S k → T k) : Frm T a b :=
  ⟨h.os, h.tape, h.output, h.size, fun i hi ht => h.block i hi (fun hs => ht (hst i hi hs))⟩
theorem Frm.drew {S : Nat → Prop} {a b : World} (h : Frm S a b) : Frm S a b.drew := ⟨h.os, h.tape, h.output, h.size, h.block⟩
theorem Frm.drewN {S : Nat → Prop} {a b : World} (h : Frm S a b) (q : Nat) : Frm S a (b.drewN q) := ⟨h.os, h.tape, h.output, h.size, h.block⟩
theorem Frm.alloc {S : Nat → Prop} {a b : World} (h : Frm S a b) (o : Obj) : Frm S a (b.alloc o) :=
  h.trans ⟨rfl, rfl, rfl, by simp, fun k hk _ => Below.heap_alloc _ _ _ hk⟩
theorem Frm.setCell {S : Nat → Prop} {a b : World} (h : Frm S a b) {p : Addr} (hp : p.block < a.heap.size → S p.block) (u : Value) : Frm S a (b.setCell p u) :=
  ⟨h.os, h.tape, h.output, Nat.le_trans h.size (by simp [World.setCell]), fun k hk hs =>
    (Below.heap_setCell _ _ _ _ (fun e => hs (by rw [e]; exact hp (by rw [← e]; exact hk)))).trans (h.block k hk hs)⟩
/-- A step that turns only what is in S, or new since a. -/
theorem Frm.step {S T : Nat → Prop} {a b c : World} (h : Frm S a b) (k : Frm T b c) (hst : ∀ i, i < a.heap.size → T i → S i) : Frm S a c :=
  ⟨k.os.trans h.os, k.tape.trans h.tape, k.output.trans h.output, Nat.le_trans h.size k.size,
    fun i hi hs => (k.block i (Nat.lt_of_lt_of_le hi h.size) (fun ht => hs (hst i hi ht))).trans (h.block i hi hs)⟩
theorem Frm.of_below {B : Nat} {a b : World} (h : Below B a b) : Frm (fun k => B ≤ k) a b :=
  ⟨h.os, h.tape, h.output, h.size, fun k _ hs => h.block k (by omega)⟩
theorem Frm.below {S : Nat → Prop} {B : Nat} {a b : World} (h : Frm S a b) (hB : B ≤ a.heap.size) (hs : ∀ k, k < B → ¬ S k) : Below B a b :=
  ⟨h.os, h.tape, h.output, h.size, fun k hk => h.block k (by omega) (hs k hk)⟩
theorem Frm.of_grown {w w' : World} {row : Option Nat} (h : w.grownBy w' row) : Frm (fun k => row = some k) w w' :=
  ⟨h.os, h.tape, h.output, h.size, fun k hk hs => h.block k hk (fun e => hs e.symm)⟩
theorem Frm.heap {S : Nat → Prop} {a b : World} (h : Frm S a b) {k : Nat} {o : Obj} (hk : a.heap[k]? = some o) (hs : ¬ S k) : b.heap[k]? = some o :=
  (h.block k (Array.getElem?_eq_some_iff.1 hk).1 hs).trans hk
theorem Frm.lt {S : Nat → Prop} {a b : World} (h : Frm S a b) {k : Nat} (hk : k < a.heap.size) : k < b.heap.size := Nat.lt_of_lt_of_le hk h.size

theorem Frm.cell {S : Nat → Prop} {a b : World} (h : Frm S a b) {k o : Nat} (hk : k < a.heap.size) (hs : ¬ S k) : b.cell? ⟨k, o, none⟩ = a.cell? ⟨k, o, none⟩ := World.cell?_of_block (w := a) (h.block k hk hs)
theorem Frm.frozen {S : Nat → Prop} {a b : World} (h : Frm S a b) {k o : Nat} (hk : k < a.heap.size) (hs : ¬ S k) : b.frozen? ⟨k, o, none⟩ = a.frozen? ⟨k, o, none⟩ := World.frozen?_of_block (w := a) (h.block k hk hs)

theorem heap_lt {w : World} {k : Nat} {o : Obj} (hk : w.heap[k]? = some o) : k < w.heap.size := (Array.getElem?_eq_some_iff.1 hk).1

theorem _root_.Go.RowKit.Below.drewN {B : Nat} {a w : World} (h : Below B a w) (q : Nat) : Below B a (w.drewN q) := ⟨h.os, h.tape, h.output, h.size, h.block⟩

theorem bcell {W w1 : World} (hb : Below W.heap.size W w1) : (∀ b o, b < W.heap.size → w1.cell? ⟨b, o, none⟩ = W.cell? ⟨b, o, none⟩) ∧ (∀ b o, b < W.heap.size → w1.frozen? ⟨b, o, none⟩ = W.frozen? ⟨b, o, none⟩) :=
  ⟨fun b o h => hb.cell (p := ⟨b, o, none⟩) h, fun b o h => hb.frozen (p := ⟨b, o, none⟩) h⟩

/-- A row of cells, none of them frozen. -/
def RowAt (w : World) (b : Nat) (e : TypeId) (cur : Array Value) : Prop := w.heap[b]? = some (.cells cur e (0, 0))

theorem RowAt.lt {w : World} {b : Nat} {e : TypeId} {cur : Array Value} (h : RowAt w b e cur) : b < w.heap.size := heap_lt h
theorem RowAt.cell {w : World} {b : Nat} {e : TypeId} {cur : Array Value} (h : RowAt w b e cur) (o : Nat) : w.cell? ⟨b, o, none⟩ = cur[o]? := by
  unfold RowAt at h; simp [World.cell?, h]
theorem RowAt.frozen {w : World} {b : Nat} {e : TypeId} {cur : Array Value} (h : RowAt w b e cur) (o : Nat) : w.frozen? ⟨b, o, none⟩ = false := by
  unfold RowAt at h; simp [World.frozen?, h]
theorem RowAt.frm {S : Nat → Prop} {w w' : World} {b : Nat} {e : TypeId} {cur : Array Value} (h : RowAt w b e cur) (f : Frm S w w') (hs : ¬ S b) : RowAt w' b e cur := f.heap h hs
theorem RowAt.drewN {w : World} {b : Nat} {e : TypeId} {cur : Array Value} (h : RowAt w b e cur) (q : Nat) : RowAt (w.drewN q) b e cur := h
theorem RowAt.drew {w : World} {b : Nat} {e : TypeId} {cur : Array Value} (h : RowAt w b e cur) : RowAt w.drew b e cur := h
theorem RowAt.setCell {w : World} {b : Nat} {e : TypeId} {cur : Array Value} (h : RowAt w b e cur) (o : Nat) (v : Value) : RowAt (w.setCell ⟨b, o, none⟩ v) b e (cur.setIfInBounds o v) := by
  unfold RowAt at h ⊢
  simp [World.setCell, Array.getElem?_modify, h]
theorem RowAt.setOther {w : World} {b : Nat} {e : TypeId} {cur : Array Value} (h : RowAt w b e cur) {p : Addr} (hp : b ≠ p.block) (v : Value) : RowAt (w.setCell p v) b e cur := by
  unfold RowAt at h ⊢
  rw [Below.heap_setCell _ _ _ _ hp]; exact h
theorem RowAt.alloc {w : World} {b : Nat} {e : TypeId} {cur : Array Value} (h : RowAt w b e cur) (x : Obj) : RowAt (w.alloc x) b e cur := by
  unfold RowAt at h ⊢
  rw [Below.heap_alloc _ _ _ (heap_lt h)]; exact h
theorem RowAt.new (w : World) (e : TypeId) (cur : Array Value) : RowAt (w.alloc (.cells cur e)) w.heap.size e cur := heap_alloc_new w _

/-- A string's byte. -/
def sb (s : ByteArray) (i : Nat) : Nat := (s.data.toList.getD i 0).toNat
theorem sb_eq {s : ByteArray} {k : Nat} (h : k < s.size) : (s[k]'h).toNat = sb s k := by
  unfold sb
  have h' : k < s.data.toList.length := by simpa using h
  rw [List.getD_eq_getElem?_getD, List.getElem?_eq_getElem h']
  rfl
theorem sb_lt (s : ByteArray) (k : Nat) : sb s k < 256 := UInt8.toNat_lt _

/-- A value under a name. -/
theorem nm {α : Type} (x : α) : ∃ y, Hid (x = y) := ⟨x, rfl⟩

end Go.Proofs.YtmfpmgelhhbfiaaDoor
