/- A frame's columns. -/
import Derived.Test.YtmfpmgelhhbfiaaDoorFfre
import Derived.Test.YtmfpmgelhhbfiaaDoorFaddo
namespace Go.Proofs.YtmfpmgelhhbfiaaDoor
open Go.RowKit

/-- A column's bytes. -/
def colF (n : Nat) (ds : List ByteArray) (c r : Nat) : Nat := if c < 191 then dataB n ds r c else parB n ds r (c - 191)
theorem colF_lt (n : Nat) (ds : List ByteArray) (c r : Nat) : colF n ds c r < 256 := by unfold colF; split; exact dataB_lt _ _ _ _; exact parB_lt _ _ _ _
def colS (n : Nat) (ds : List ByteArray) (c : Nat) : ByteArray := ⟨(bytesL n (colF n ds c)).toArray⟩
theorem colS_size (n : Nat) (ds : List ByteArray) (c : Nat) : (colS n ds c).size = n := bytesL_size _ _

theorem bytesL_succ (n : Nat) (f : Nat → Nat) : bytesL (n + 1) f = bytesL n f ++ [(f n).toUInt8] := by simp [bytesL, List.range_succ]

/-- What the rest of Column wants: the frame, its parity being fresh where the column is one of parity. -/
def ColReady (n : Nat) (ds : List ByteArray) (c : Nat) (B : Nat → Nat → Nat) : Prop := ∀ r, r < n → B r c = colF n ds c r

set_option maxRecDepth 100000 in
set_option maxHeartbeats 4000000 in
theorem column_calls {w : World} {fb n cols cut : Nat} {ds : List ByteArray} {rb : Nat} {v : Value} {old : Bool} {B : Nat → Nat → Nat} (h : FrameIs w fb n cols cut ds rb v old B) (c : Nat) (ci : Int) (hci : ci = c) (hc : c < 255) :
    Calls Tryd.prog 42 #[.pointer (some ⟨fb, 0, none⟩), .int .i64 ci] w fun e w' => e = .returned (.tuple #[.string (colS n ds c), .int .i64 0]) ∧ (∃ old' B', FrameIs w' fb n cols cut ds rb v old' B') ∧ Frm (fun k => k = fb ∨ k = rb ∨ w.heap.size ≤ k) w w' := by
  subst hci
  obtain ⟨i0, hi, hz0, hz1, hz2⟩ := info_parts Tryd.infob
  have hn := h.most
  have hwa := h.row.lt
  have hwb := h.rows.lt
  have g1 : decide ((c : Int) < 0) = false := by simp
  have g2 : decide ((255 : Int) ≤ (c : Int)) = false := by simp; omega
  by_cases h191 : c < 191
  · have g3 : decide ((191 : Int) ≤ (c : Int)) = false := by simp; omega
    have hrd : ColReady n ds c B := fun r hr => by unfold colF; rw [if_pos h191]; exact h.data r c hr h191
    have HRD := Lib.hid hrd
    have H := Lib.hid h
    clear h hrd
    obtain ⟨B1, hB1⟩ : ∃ B1, B1 = B := ⟨B, rfl⟩
    rw [← hB1] at H HRD
    clear hB1
    have c5 : w.cell? ⟨fb, 5, none⟩ = some (.slice (some ⟨rb, 0, none⟩) n n) := H.out.row.cell 5
    have HF := Lib.hid (Frm.refl (fun k => k = fb ∨ k = rb ∨ w.heap.size ≤ k) w)
    have HI := H
    clear H
    go_enter Tryd.func42, Tryd.ntmps42
    go_wp2_with (refine wpList_make_own _ rfl (.const (.int .i64 0)) (.tmp 27) 89 rfl 0 5 i0 (.int .u8 0) 1 Tryd.underlying89 hi hz0 hz1 .i64 .i64 _ n rfl rfl rfl ?_ ?_ (Nat.zero_le _) ?_)
    case refine_1 => rw [hz2]; omega
    case refine_2 => unfold maxLen; omega
    case refine_3 =>
      intro w2 hown hgrow
      have hI2 : ByteRow w2 (.slice (some ⟨w.heap.size, 0, none⟩) 0 n) [] := hown
      have hB2 : Below w.heap.size w w2 := (Below.refl _ _).grown hgrow (Nat.le_refl _) (fun k hk => by cases hk)
      have HI2 := Lib.hid hI2
      have HB2 := Lib.hid hB2
      have c5b : w2.cell? ⟨fb, 5, none⟩ = some (.slice (some ⟨rb, 0, none⟩) n n) := by rw [hB2.cell HI.out.row.lt]; exact c5
      clear hown hgrow hI2 hB2 c5
      go_wp2_with fail
      go_loopw [6, 34] (fun v i wr => ∃ k : Nat, k ≤ n ∧ i = .int .i64 k ∧ ByteRow wr v (bytesL k (colF n ds c)) ∧ Below w.heap.size w wr ∧ (∀ k, v.ownBlock = some k → w.heap.size ≤ k)) (fun _ i _ => n - (intOf i).toNat)
      case atStart => exact ⟨0, Nat.zero_le _, rfl, HI2.out, HB2.out, fun k hk => by cases hk; exact Nat.le_refl _⟩
      case round =>
        obtain ⟨k, hk, rfl, hI, hB, hown⟩ := hrel
        have hl : (bytesL k (colF n ds c)).length = k := bytesL_len _ _
        by_cases hlt : k < n
        · have hrow : FRows wr rb n B1 := HI.out.rows.frm (Frm.of_below hB) (by have := HI.out.rows.lt; omega)
          have hcell := hrow.byte hlt hc
          rw [HRD.out k hlt] at hcell
          have cc : wr.cell? ⟨fb, 5, none⟩ = some (.slice (some ⟨rb, 0, none⟩) n n) := by rw [hB.cell HI.out.row.lt]; exact HI.out.row.cell 5
          have hsu := bytesL_succ k (colF n ds c)
          have hx := colF_lt n ds c k
          have HII := Lib.hid hI
          have HB := Lib.hid hB
          have HO := Lib.hid hown
          clear hI hB hown hrow
          generalize colF n ds c k = x at *
          generalize bytesL k (colF n ds c) = L at *
          have HX := Lib.hid (byteV_nat x hx)
          have HP := Lib.hid hsu
          have hI3 : (wr.alloc (.cells #[.int .u8 (x : Int)] 5)).ownsRow 0 5 1 u6 L.length (L.map byteV) := World.ownsRow.alloc HII.out _
          have HI3 := Lib.hid hI3
          have HC0 := Lib.hid (RowAt.new wr 5 #[.int .u8 (x : Int)])
          clear hI3 hsu
          have j1 : (k : Int) < (n : Int) := by omega
          have j2 : (c : Int) < 255 := by omega
          go_wp2_with (at_builtin; refine wpList_append_own_at _ rfl _ _ 89 rfl 0 5 i0 (.int .u8 0) 1 1 Tryd.underlying89 hi hz0 hz1 hz2 rfl (by decide) _ _ _ rfl HI3.out ⟨wr.heap.size, 0, none⟩ 1 1 [.int .u8 (x : Int)] rfl rfl ?_ ?_ ?_ ?_ (Nat.zero_le _) ?_)
          case refine_1 => exact cells_one (HC0.out.cell 0)
          case refine_2 => intro u hu; simp at hu; subst hu; rfl
          case refine_3 => unfold maxLen; omega
          case refine_4 => omega
          case refine_5 =>
            intro v' w3 hown1 hgrow _ hloc
            have hI1 : ByteRow w3 v' (bytesL (k + 1) (colF n ds c)) := by
              unfold ByteRow; rw [HP.out, List.map_append, List.map_cons, List.map_nil, HX.out, List.length_append, hl]; exact hown1
            have hB1 : Below w.heap.size w w3 := by
              refine (HB.out.alloc HB.out.size _).grown hgrow (by have := HB.out.size; simp; omega) (fun k hk => ?_)
              exact HO.out k hk
            have ho1 : ∀ k, v'.ownBlock = some k → w.heap.size ≤ k := by
              intro k hk
              rcases hloc with h | h
              · exact HO.out k (by rw [← h, hk])
              · rw [h] at hk; cases hk; have := HB.out.size; simp; omega
            clear hown1 hgrow hloc HI3 HC0
            have H1 := Lib.hid hI1
            have H2 := Lib.hid hB1
            have H3 := Lib.hid ho1
            clear hI1 hB1 ho1
            go_wp2_with fail
            go_roundw
            case rel => exact ⟨k + 1, by omega, by go_num, H1.out, H2.out, H3.out⟩
            case measure => simp [intOf]; omega
        · obtain rfl : k = n := by omega
          have hcv := hI.text
          have hs : (⟨(bytesL k (colF k ds c)).toArray⟩ : ByteArray) = colS k ds c := rfl
          rw [hs] at hcv
          have HB := Lib.hid hB
          clear hI hB hown hs hl
          generalize bytesL k (colF k ds c) = L at *
          go_wp2_with fail
          go_ret2
          refine ⟨rfl, ⟨_, _, HI.out.frm (Frm.of_below HB.out) (by have := HI.out.row.lt; omega) (by have := HI.out.rows.lt; omega) (fun k hk => by have := HI.out.placed.lt k hk; omega)⟩, ?_⟩
          exact HF.out.step (Frm.of_below HB.out) (fun k hk h => by have := HF.out.size; omega)
  · have g3 : decide ((191 : Int) ≤ (c : Int)) = true := by simp; omega
    have H := Lib.hid h
    clear h
    go_enter Tryd.func42, Tryd.ntmps42
    go_wp2_with fail
    refine (fresh_calls H.out).mono ?_
    rintro e w1 ⟨rfl, hI, hF⟩
    have hrd : ColReady n ds c (if old = true then freshTo n ds B n else B) := fun r hr => by
      unfold colF; rw [if_neg h191]; exact hI.fresh rfl r c hr (by omega) hc
    generalize (if old = true then freshTo n ds B n else B) = B1 at *
    have c5 : w1.cell? ⟨fb, 5, none⟩ = some (.slice (some ⟨rb, 0, none⟩) n n) := hI.row.cell 5
    have HRD := Lib.hid hrd
    have HI := Lib.hid hI
    have HF := Lib.hid hF
    clear hrd hI hF H
    go_wp2_with (refine wpList_make_own _ rfl (.const (.int .i64 0)) (.tmp 27) 89 rfl 0 5 i0 (.int .u8 0) 1 Tryd.underlying89 hi hz0 hz1 .i64 .i64 _ n rfl rfl rfl ?_ ?_ (Nat.zero_le _) ?_)
    case refine_1 => rw [hz2]; omega
    case refine_2 => unfold maxLen; omega
    case refine_3 =>
      intro w2 hown hgrow
      have hI2 : ByteRow w2 (.slice (some ⟨w1.heap.size, 0, none⟩) 0 n) [] := hown
      have hB2 : Below w1.heap.size w1 w2 := (Below.refl _ _).grown hgrow (Nat.le_refl _) (fun k hk => by cases hk)
      have HI2 := Lib.hid hI2
      have HB2 := Lib.hid hB2
      have c5b : w2.cell? ⟨fb, 5, none⟩ = some (.slice (some ⟨rb, 0, none⟩) n n) := by rw [hB2.cell HI.out.row.lt]; exact c5
      clear hown hgrow hI2 hB2 c5
      go_wp2_with fail
      go_loopw [6, 34] (fun v i wr => ∃ k : Nat, k ≤ n ∧ i = .int .i64 k ∧ ByteRow wr v (bytesL k (colF n ds c)) ∧ Below w1.heap.size w1 wr ∧ (∀ k, v.ownBlock = some k → w1.heap.size ≤ k)) (fun _ i _ => n - (intOf i).toNat)
      case atStart => exact ⟨0, Nat.zero_le _, rfl, HI2.out, HB2.out, fun k hk => by cases hk; exact Nat.le_refl _⟩
      case round =>
        obtain ⟨k, hk, rfl, hI, hB, hown⟩ := hrel
        have hl : (bytesL k (colF n ds c)).length = k := bytesL_len _ _
        by_cases hlt : k < n
        · have hrow : FRows wr rb n B1 := HI.out.rows.frm (Frm.of_below hB) (by have := HI.out.rows.lt; omega)
          have hcell := hrow.byte hlt hc
          rw [HRD.out k hlt] at hcell
          have cc : wr.cell? ⟨fb, 5, none⟩ = some (.slice (some ⟨rb, 0, none⟩) n n) := by rw [hB.cell HI.out.row.lt]; exact HI.out.row.cell 5
          have hsu := bytesL_succ k (colF n ds c)
          have hx := colF_lt n ds c k
          have HII := Lib.hid hI
          have HB := Lib.hid hB
          have HO := Lib.hid hown
          clear hI hB hown hrow
          generalize colF n ds c k = x at *
          generalize bytesL k (colF n ds c) = L at *
          have HX := Lib.hid (byteV_nat x hx)
          have HP := Lib.hid hsu
          have hI3 : (wr.alloc (.cells #[.int .u8 (x : Int)] 5)).ownsRow 0 5 1 u6 L.length (L.map byteV) := World.ownsRow.alloc HII.out _
          have HI3 := Lib.hid hI3
          have HC0 := Lib.hid (RowAt.new wr 5 #[.int .u8 (x : Int)])
          clear hI3 hsu
          have j1 : (k : Int) < (n : Int) := by omega
          have j2 : (c : Int) < 255 := by omega
          go_wp2_with (at_builtin; refine wpList_append_own_at _ rfl _ _ 89 rfl 0 5 i0 (.int .u8 0) 1 1 Tryd.underlying89 hi hz0 hz1 hz2 rfl (by decide) _ _ _ rfl HI3.out ⟨wr.heap.size, 0, none⟩ 1 1 [.int .u8 (x : Int)] rfl rfl ?_ ?_ ?_ ?_ (Nat.zero_le _) ?_)
          case refine_1 => exact cells_one (HC0.out.cell 0)
          case refine_2 => intro u hu; simp at hu; subst hu; rfl
          case refine_3 => unfold maxLen; omega
          case refine_4 => omega
          case refine_5 =>
            intro v' w3 hown1 hgrow _ hloc
            have hI1 : ByteRow w3 v' (bytesL (k + 1) (colF n ds c)) := by
              unfold ByteRow; rw [HP.out, List.map_append, List.map_cons, List.map_nil, HX.out, List.length_append, hl]; exact hown1
            have hB1 : Below w1.heap.size w1 w3 := by
              refine (HB.out.alloc HB.out.size _).grown hgrow (by have := HB.out.size; simp; omega) (fun k hk => ?_)
              exact HO.out k hk
            have ho1 : ∀ k, v'.ownBlock = some k → w1.heap.size ≤ k := by
              intro k hk
              rcases hloc with h | h
              · exact HO.out k (by rw [← h, hk])
              · rw [h] at hk; cases hk; have := HB.out.size; simp; omega
            clear hown1 hgrow hloc HI3 HC0
            have H1 := Lib.hid hI1
            have H2 := Lib.hid hB1
            have H3 := Lib.hid ho1
            clear hI1 hB1 ho1
            go_wp2_with fail
            go_roundw
            case rel => exact ⟨k + 1, by omega, by go_num, H1.out, H2.out, H3.out⟩
            case measure => simp [intOf]; omega
        · obtain rfl : k = n := by omega
          have hcv := hI.text
          have hs : (⟨(bytesL k (colF k ds c)).toArray⟩ : ByteArray) = colS k ds c := rfl
          rw [hs] at hcv
          have HB := Lib.hid hB
          clear hI hB hown hs hl
          generalize bytesL k (colF k ds c) = L at *
          go_wp2_with fail
          go_ret2
          refine ⟨rfl, ⟨_, _, HI.out.frm (Frm.of_below HB.out) (by have := HI.out.row.lt; omega) (by have := HI.out.rows.lt; omega) (fun k hk => by have := HI.out.placed.lt k hk; omega)⟩, ?_⟩
          exact HF.out.step (Frm.of_below HB.out) (fun k hk h => by have := HF.out.size; omega)
end Go.Proofs.YtmfpmgelhhbfiaaDoor
