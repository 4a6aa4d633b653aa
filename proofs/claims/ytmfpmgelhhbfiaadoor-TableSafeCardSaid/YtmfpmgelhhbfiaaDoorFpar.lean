/- A frame's columns of parity. -/
import Derived.Test.YtmfpmgelhhbfiaaDoorFcol
namespace Go.Proofs.YtmfpmgelhhbfiaaDoor
open Go.RowKit

theorem Tryd.info9 : (Tryd.prog.info? 9).map (fun i => (i.zero, i.size, i.bytes)) = some (some (.string ⟨#[]⟩), 1, 16) := by kernel_rfl
/-- A row of strings that a call owns. -/
def StrRow (w : World) (v : Value) (l : List ByteArray) : Prop := w.ownsRow 0 9 1 v l.length (l.map Value.string)
theorem StrRow.frm {S : Nat → Prop} {w w' : World} {v : Value} {l : List ByteArray} (h : StrRow w v l) (f : Frm S w w') (hs : ∀ k, v.ownBlock = some k → ¬ S k) : StrRow w' v l := by
  refine ⟨h.1, ?_⟩
  rcases h.2 with hn | ⟨g, cap, cur, rfl, hb, hgg, rest⟩
  · exact .inl hn
  · exact .inr ⟨g, cap, cur, rfl, hb, f.heap hgg (hs g rfl), rest⟩
theorem StrRow.nil (w : World) : StrRow w (.slice none 0 0) [] := World.ownsRow_nil w 0 _ 1
theorem StrRow.lt {w : World} {v : Value} {l : List ByteArray} (h : StrRow w v l) : ∀ k, v.ownBlock = some k → k < w.heap.size := fun k hk => (World.ownsRow.lt h k hk).2
theorem StrRow.slice {w : World} {v : Value} {l : List ByteArray} (h : StrRow w v l) : ∃ a c, v = .slice a l.length c ∧ l.length ≤ c := by
  rcases h.2 with ⟨h, h0⟩ | ⟨g, cap, cur, h, _, _, hc, _⟩
  · exact ⟨none, 0, by rw [h, h0], by omega⟩
  · exact ⟨_, _, h, hc⟩
theorem StrRow.cell {w : World} {g c : Nat} {l : List ByteArray} {k : Nat} {x : ByteArray} (h : StrRow w (.slice (some ⟨g, 0, none⟩) l.length c) l) (hk : l[k]? = some x) : w.cell? ⟨g, k, none⟩ = some (.string x) := by
  rcases h.2 with ⟨h, _⟩ | ⟨g', cap, cur, h, _, hg, _, _, _, htk⟩
  · cases h
  · injection h with h1 h2 h3
    injection h1 with h1; injection h1 with h1
    subst h1
    rw [cell_of_row w g k cur _ (0, 0) hg]
    have hlt : k < l.length := (List.getElem?_eq_some_iff.1 hk).1
    have : (cur.toList.take (l.length * 1))[k]? = some (.string x) := by rw [htk, List.getElem?_map, hk]; rfl
    rw [List.getElem?_take, if_pos (by omega), Array.getElem?_toList] at this
    exact this

/-- The columns of parity that are sent. -/
def parL (n : Nat) (ds : List ByteArray) (m : Nat) : List ByteArray := (List.range m).map fun j => colS n ds (191 + j)
theorem parL_len (n : Nat) (ds : List ByteArray) (m : Nat) : (parL n ds m).length = m := by simp [parL]
theorem parL_succ (n : Nat) (ds : List ByteArray) (m : Nat) : parL n ds (m + 1) = parL n ds m ++ [colS n ds (191 + m)] := by simp [parL, List.range_succ]

/-- A frame, and a new row of strings. -/
def FrameStrs (w : World) (fb n cols cut : Nat) (ds : List ByteArray) (S : Nat → Prop) (l : List ByteArray) (e : Ending) (w' : World) : Prop :=
  ∃ v, e = .returned v ∧ StrRow w' v l ∧ (∀ k, v.ownBlock = some k → w.heap.size ≤ k) ∧ FrameAt w' fb n cols cut ds S ∧ Frm S w w'

set_option maxRecDepth 100000 in
set_option maxHeartbeats 4000000 in
theorem parity_calls {w : World} {fb n cols cut : Nat} {ds : List ByteArray} {S : Nat → Prop} (h : FrameAt w fb n cols cut ds S) :
    Calls Tryd.prog 26 #[.pointer (some ⟨fb, 0, none⟩)] w (FrameStrs w fb n cols cut ds S (parL n ds (64 - cut))) := by
  obtain ⟨i0, hi, hz0, hz1, hz2⟩ := info_parts Tryd.info9
  obtain ⟨⟨rb, v, old, B, h1, hS1, hS2, hS3⟩, hfoot⟩ := h
  have hcut := h1.slim
  have hvl : ∀ k, v.ownBlock = some k → k < w.heap.size := h1.placed.lt
  have hwa := h1.row.lt
  have hwb := h1.rows.lt
  have HS := Lib.hid (show S fb ∧ S rb ∧ (∀ k, v.ownBlock = some k → S k) ∧ ∀ k, S k → k < w.heap.size from ⟨hS1, hS2, hS3, hfoot⟩)
  have H1 := Lib.hid h1
  have HVL := Lib.hid hvl
  clear h1 hS1 hS2 hS3 hfoot hvl
  go_enter Tryd.func26, Tryd.ntmps26
  go_wp2_with fail
  go_loopw [3, 4] (fun u i wr => ∃ (k : Nat) (old' : Bool) (B' : Nat → Nat → Nat), k ≤ 64 - cut ∧ i = .int .i64 (191 + k : Nat) ∧ FrameIs wr fb n cols cut ds rb v old' B' ∧ StrRow wr u (parL n ds k) ∧ Frm (fun k => k = fb ∨ k = rb ∨ w.heap.size ≤ k) w wr ∧ (∀ k, u.ownBlock = some k → w.heap.size ≤ k)) (fun _ i _ => 255 - (intOf i).toNat)
  case atStart => exact ⟨0, old, B, Nat.zero_le _, rfl, H1.out, StrRow.nil _, Frm.refl _ _, fun k hk => by cases hk⟩
  case round =>
    obtain ⟨k, old', B', hk, rfl, hF, hR, hFr, hown⟩ := hrel
    have c2 : wr.cell? ⟨fb, 2, none⟩ = some (.int .i64 cut) := hF.row.cell 2
    have hl := parL_len n ds k
    have HF := Lib.hid hF
    have HR := Lib.hid hR
    have HFr := Lib.hid hFr
    have HO := Lib.hid hown
    clear hF hR hFr hown
    by_cases hlt : k < 64 - cut
    · have hc := fun W h => column_calls (w := W) (fb := fb) (n := n) (cols := cols) (cut := cut) (ds := ds) (rb := rb) (v := v) (old := old') (B := B') h (191 + k) _ rfl (by omega)
      have HC := Lib.hid hc
      have hsu := parL_succ n ds k
      clear hc
      generalize parL n ds k = L at *
      generalize colS n ds (191 + k) = X at *
      have HP := Lib.hid hsu
      clear hsu
      go_wp2_with fail
      refine (HC.out _ HF.out).mono ?_
      rintro e w2 ⟨rfl, ⟨old2, B2, hF2⟩, hFr2⟩
      have hR2 : StrRow w2 u3 L := HR.out.frm hFr2 (fun k hk h => by
        have h1 := HO.out k hk
        have h2 := HR.out.lt k hk
        omega)
      have HF2 := Lib.hid hF2
      have HFr2 := Lib.hid (HFr.out.step hFr2 (fun k hk h => by have := HFr.out.size; omega))
      have hsz2 := hFr2.size
      have hI3 : (w2.alloc (.cells #[.string X] 9)).ownsRow 0 9 1 u3 L.length (L.map Value.string) := World.ownsRow.alloc hR2 _
      have HI3 := Lib.hid hI3
      have HC0 := Lib.hid (RowAt.new w2 9 #[.string X])
      clear hI3 hF2 hFr2 hR2 HC c2
      go_wp2_with (at_builtin; refine wpList_append_own_at _ rfl _ _ 63 rfl 0 9 i0 (.string ⟨#[]⟩) 1 16 Tryd.underlying63 hi hz0 hz1 hz2 rfl (by decide) _ _ _ rfl HI3.out ⟨w2.heap.size, 0, none⟩ 1 1 [.string X] rfl rfl ?_ ?_ ?_ ?_ (Nat.zero_le _) ?_)
      case refine_1 => exact cells_one (HC0.out.cell 0)
      case refine_2 => intro u hu; simp at hu; subst hu; rfl
      case refine_3 => unfold maxLen; omega
      case refine_4 => omega
      case refine_5 =>
        intro v' w3 hown1 hgrow _ hloc
        have hI1 : StrRow w3 v' (parL n ds (k + 1)) := by
          unfold StrRow; rw [HP.out, List.map_append, List.length_append]; rw [← hl] at hown1; exact hown1
        have hF3 : Frm (fun k => u3.ownBlock = some k) w2 w3 := ((Frm.refl (fun k => u3.ownBlock = some k) w2).alloc _).step (Frm.of_grown hgrow) (fun k _ h => h)
        have hno : ∀ k, k < w.heap.size → ¬ u3.ownBlock = some k := fun k hk h => by have := HO.out k h; omega
        have HI1 := Lib.hid hI1
        have HF4 := Lib.hid (HF2.out.frm hF3 (hno _ (by omega)) (hno _ (by omega)) (fun k hk => hno _ (HVL.out k hk)))
        have HFr4 := Lib.hid (HFr2.out.step hF3 (fun k hk h => absurd h (hno k hk)))
        have ho1 : ∀ k, v'.ownBlock = some k → w.heap.size ≤ k := by
          intro k hk
          rcases hloc with h | h
          · exact HO.out k (by rw [← h, hk])
          · rw [h] at hk; cases hk; have := HFr2.out.size; simp; omega
        have HO1 := Lib.hid ho1
        clear hown1 hgrow hloc HI3 HC0 hI1 hF3 ho1 hno
        go_wp2_with fail
        go_roundw
        case rel => exact ⟨k + 1, old2, B2, by omega, by go_num, HF4.out, HI1.out, HFr4.out, HO1.out⟩
        case measure => simp [intOf]; omega
    · obtain rfl : k = 64 - cut := by omega
      go_wp2_with fail
      go_ret
      obtain ⟨s1, s2, s3, s4⟩ := HS.out
      have hT : Frm S w wr := HFr.out.mono (fun k hk h => by
        rcases h with rfl | rfl | h
        · exact s1
        · exact s2
        · omega)
      exact ⟨_, rfl, HR.out, HO.out, ⟨⟨rb, v, old', B', HF.out, s1, s2, s3⟩, fun k hk => hT.lt (s4 k hk)⟩, hT⟩
end Go.Proofs.YtmfpmgelhhbfiaaDoor
