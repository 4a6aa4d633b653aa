/- A frame in memory. -/
import Derived.Test.YtmfpmgelhhbfiaaDoorFrp
namespace Go.Proofs.YtmfpmgelhhbfiaaDoor
open Go.RowKit

theorem Tryd.infofp : (Tryd.prog.info? 40).map (fun i => (i.zero, i.size, i.bytes)) = some (some (.agg #[.int .i64 0, .string ⟨#[]⟩]), 2, 24) := by kernel_rfl
/-- A row of placed datagrams of a frame. -/
def FPlaced (w : World) (v : Value) (l : List (Nat × ByteArray)) : Prop := w.ownsRow 0 40 2 v l.length (placedCells l)
theorem FPlaced.frm {S : Nat → Prop} {w w' : World} {v : Value} {l : List (Nat × ByteArray)} (h : FPlaced w v l) (f : Frm S w w') (hs : ∀ k, v.ownBlock = some k → ¬ S k) : FPlaced w' v l := by
  refine ⟨h.1, ?_⟩
  rcases h.2 with hn | ⟨g, cap, cur, rfl, hb, hgg, rest⟩
  · exact .inl hn
  · exact .inr ⟨g, cap, cur, rfl, hb, f.heap hgg (hs g rfl), rest⟩
theorem FPlaced.nil (w : World) : FPlaced w (.slice none 0 0) [] := World.ownsRow_nil w 0 _ 2
theorem FPlaced.lt {w : World} {v : Value} {l : List (Nat × ByteArray)} (h : FPlaced w v l) : ∀ k, v.ownBlock = some k → k < w.heap.size := fun k hk => (World.ownsRow.lt h k hk).2

def fcells (n cols cut used : Nat) (v : Value) (rb : Nat) (old : Bool) : Array Value :=
  #[.int .i64 n, .int .i64 cols, .int .i64 cut, v, .int .i64 used, .slice (some ⟨rb, 0, none⟩) n n, .bool old]

/-- A frame's blocks: fb the frame, rb its rows, v its datagrams. -/
structure FrameIs (w : World) (fb n cols cut : Nat) (ds : List ByteArray) (rb : Nat) (v : Value) (old : Bool) (B : Nat → Nat → Nat) : Prop where
  ne : rb ≠ fb
  row : RowAt w fb 69 (fcells n cols cut (tot ds) v rb old)
  rows : FRows w rb n B
  placed : FPlaced w v (plc 0 ds)
  nef : v.ownBlock ≠ some fb
  ner : v.ownBlock ≠ some rb
  byte : ∀ r c, B r c < 256
  data : ∀ r c, r < n → c < 191 → B r c = dataB n ds r c
  fresh : old = false → ∀ r c, r < n → 191 ≤ c → c < 255 → B r c = parB n ds r (c - 191)
  pos : 0 < n
  most : n ≤ 1024
  wide : cols ≤ 191
  slim : cut ≤ 64
  fits : tot ds ≤ n * cols
  few : ds.length < 1000000

/-- A frame: n rows, so many columns, so many of parity not sent; its datagrams. S: its blocks. -/
structure FrameAt (w : World) (fb n cols cut : Nat) (ds : List ByteArray) (S : Nat → Prop) : Prop where
  ex : ∃ rb v old B, FrameIs w fb n cols cut ds rb v old B ∧ S fb ∧ S rb ∧ ∀ k, v.ownBlock = some k → S k
  foot : ∀ k, S k → k < w.heap.size

theorem FrameIs.frm {w w' : World} {fb n cols cut : Nat} {ds : List ByteArray} {rb : Nat} {v : Value} {old : Bool} {B : Nat → Nat → Nat} {T : Nat → Prop} (h : FrameIs w fb n cols cut ds rb v old B) (f : Frm T w w')
    (h1 : ¬ T fb) (h2 : ¬ T rb) (h3 : ∀ k, v.ownBlock = some k → ¬ T k) : FrameIs w' fb n cols cut ds rb v old B :=
  { h with row := h.row.frm f h1, rows := h.rows.frm f h2, placed := h.placed.frm f h3 }
theorem FrameAt.frm {w w' : World} {fb n cols cut : Nat} {ds : List ByteArray} {S T : Nat → Prop} (h : FrameAt w fb n cols cut ds S) (f : Frm T w w') (hs : ∀ k, S k → ¬ T k) : FrameAt w' fb n cols cut ds S := by
  obtain ⟨⟨rb, v, old, B, h1, h2, h3, h4⟩, hf⟩ := h
  exact ⟨⟨rb, v, old, B, h1.frm f (hs _ h2) (hs _ h3) (fun k hk => hs k (h4 k hk)), h2, h3, h4⟩, fun k hk => f.lt (hf k hk)⟩
theorem FrameAt.below {w w' : World} {fb n cols cut : Nat} {ds : List ByteArray} {S : Nat → Prop} (h : FrameAt w fb n cols cut ds S) (f : Below w.heap.size w w') : FrameAt w' fb n cols cut ds S :=
  h.frm (Frm.of_below f) (fun k hk e => by have := h.foot k hk; omega)
theorem FrameAt.fits {w : World} {fb n cols cut : Nat} {ds : List ByteArray} {S : Nat → Prop} (h : FrameAt w fb n cols cut ds S) : tot ds ≤ n * cols := let ⟨⟨_, _, _, _, h, _⟩, _⟩ := h; h.fits

/-- A frame after a call that changed it. -/
def FrameTurned (w : World) (fb n cols cut : Nat) (ds : List ByteArray) (S : Nat → Prop) (w' : World) : Prop := ∃ S', FrameAt w' fb n cols cut ds S' ∧ Frm S w w' ∧ Fresh w S S'

set_option maxHeartbeats 400000 in
theorem frame_spot (w : World) (fb : Nat) (n a : Nat) (ai : Int) (hai : ai = a) (hn : 0 < n) (hn2 : n ≤ 1024) (ha : a < 2 ^ 53)
    (hr : w.cell? ⟨fb, 0, none⟩ = some (.int .i64 n)) :
    Calls Tryd.prog 41 #[.pointer (some ⟨fb, 0, none⟩), .int .i64 ai] w fun e w' => e = .returned (.complex .f64 (Zf.fl (a / n)) (Zf.fl (a % n))) ∧ ∃ q, w' = w.drewN q := by
  subst hai
  go_enter Tryd.func41, Tryd.ntmps41
  go_wp2
  go_quiet (fail)
  go_wp2
  go_ret
  refine ⟨?_, nq, rfl⟩
  rw [spot_col a n ha, spot_row a n ha]; rfl
end Go.Proofs.YtmfpmgelhhbfiaaDoor
