/- Package poly: products, walked. -/
import Derived.Test.YtmfpmgelhhbfiaaDoorGfm
import Derived.Test.YtmfpmgelhhbfiaaDoorPolyp
import Derived.Test.YtmfpmgelhhbfiaaDoorGram
import Derived.Test.YtmfpmgelhhbfiaaDoorKnown
import Derived.Test.YtmfpmgelhhbfiaaDoorShelft
namespace Go.Proofs.YtmfpmgelhhbfiaaDoor
open Go.RowKit

theorem made_cell (z : Array Value) (n i : Nat) (v : Value) (hi : i < n) (hz : z[i % z.size]? = some v) : (madeCells z n)[i]? = some v := by
  unfold madeCells
  simp [hi]
  rw [getElem!_def, hz]

/-- A row of bytes under way. -/
def PolyRow (w : World) (rb n : Nat) (f : Nat → Nat) : Prop := ∃ cur, RowAt w rb 5 cur ∧ cur.size = n ∧ ∀ j, j < n → cur[j]? = some (.int .u8 (f j : Nat))
theorem PolyRow.congr {w : World} {rb n : Nat} {f g : Nat → Nat} (h : PolyRow w rb n f) (e : ∀ j, f j = g j) : PolyRow w rb n g := by
  rw [show g = f from funext fun j => (e j).symm]; exact h
theorem PolyRow.cell {w : World} {rb n : Nat} {f : Nat → Nat} (h : PolyRow w rb n f) {j : Nat} (hj : j < n) : w.cell? ⟨rb, j, none⟩ = some (.int .u8 (f j : Nat)) := by
  obtain ⟨cur, h1, _, h2⟩ := h
  rw [h1.cell]; exact h2 j hj
theorem PolyRow.frozen {w : World} {rb n : Nat} {f : Nat → Nat} (h : PolyRow w rb n f) (j : Nat) : w.frozen? ⟨rb, j, none⟩ = false := by
  obtain ⟨cur, h1, _, h2⟩ := h
  exact h1.frozen _
theorem PolyRow.set {w : World} {rb n : Nat} {f g : Nat → Nat} (h : PolyRow w rb n f) (k x : Nat) (e : ∀ j, g j = if j = k then x else f j) : PolyRow (w.setCell ⟨rb, k, none⟩ (.int .u8 (x : Nat))) rb n g := by
  obtain ⟨cur, h1, h2, h3⟩ := h
  refine ⟨_, h1.setCell _ _, by simp [h2], fun j hj => ?_⟩
  rw [e]
  by_cases ee : j = k
  · subst ee
    rw [if_pos rfl, Array.getElem?_setIfInBounds_self]
    simp [h2, hj]
  · rw [if_neg ee, Array.getElem?_setIfInBounds_ne (by omega)]; exact h3 j hj
theorem PolyRow.text {w : World} {rb n : Nat} {f : Nat → Nat} (h : PolyRow w rb n f) (hf : ∀ j, f j < 256) (hn : n ≤ 100000) : ByteRow w (.slice (some ⟨rb, 0, none⟩) n n) ((List.range n).map fun j => (f j).toUInt8) := by
  obtain ⟨cur, h1, h2, h3⟩ := h
  have hl : ((List.range n).map fun j => (f j).toUInt8).length = n := by simp
  refine ⟨by simp, .inr ⟨rb, n, cur, by rw [hl], Nat.zero_le _, h1, by omega, by unfold maxLen; omega, by omega, ?_⟩⟩
  apply List.ext_getElem?
  intro j
  rw [hl, Nat.mul_one, List.getElem?_take]
  by_cases hj : j < n
  · rw [if_pos hj, Array.getElem?_toList, h3 j hj]
    have := hf j
    simp [hj, byteV]; omega
  · rw [if_neg hj, List.getElem?_eq_none (by rw [List.length_map, hl]; omega)]

def mulS (a b : ByteArray) : ByteArray := ⟨(Lib.trimRightB ((List.range (a.size + b.size)).map fun j => (conv (sb a) (sb b) a.size j).toUInt8) 0).toArray⟩

theorem u8_xor_nat (a b : Nat) (ha : a < 256) (hb : b < 256) : bits .xor .u8 (a : Int) (b : Int) = ((a ^^^ b : Nat) : Int) := by
  have e1 : (BitVec.ofInt 8 (a : Int)).toNat = a := by simp; omega
  have e2 : (BitVec.ofInt 8 (b : Int)).toNat = b := by simp; omega
  show IntKind.u8.wrap ((BitVec.ofInt 8 (a : Int) ^^^ BitVec.ofInt 8 (b : Int)).toNat : Int) = _
  rw [BitVec.toNat_xor, e1, e2]
  have h := Nat.xor_lt_two_pow (n := 8) (show a < 2 ^ 8 by omega) (show b < 2 ^ 8 by omega)
  show ((a ^^^ b : Nat) : Int) % 256 = _
  omega
theorem sb_zero {s : ByteArray} {k : Nat} (h : s.size ≤ k) : sb s k = 0 := by
  unfold sb
  have : s.data.toList.length = s.size := by simp
  rw [List.getD_eq_getElem?_getD, List.getElem?_eq_none (by omega)]; rfl

set_option maxRecDepth 100000
set_option maxHeartbeats 2000000
theorem trim_calls (w : World) (s : ByteArray) (hs : s.size ≤ 100000) : Calls Tryd.prog 76 #[.string s] w fun e w' => e = .returned (.string ⟨(Lib.trimRightB s.data.toList 0).toArray⟩) ∧ w' = w := by
  go_enter Tryd.func76, Tryd.ntmps76
  go_wp2_with fail
  refine (Tryd.strings_TrimRight_one s 0 (by decide) _ (by omega)).mono ?_
  rintro e w' ⟨rfl, rfl⟩
  go_wp2_with fail
  go_ret
  exact ⟨rfl, rfl⟩

theorem mul_calls (w : World) (a b : ByteArray) (ha : a.size ≤ 300) (hb : b.size ≤ 300) :
    Calls Tryd.prog 87 #[.string a, .string b] w fun e w' => e = .returned (.string (mulS a b)) ∧ Below w.heap.size w w' := by
  obtain ⟨i0, hi, hz0, hz1, hz2⟩ := info_parts Tryd.infob
  go_enter Tryd.func87, Tryd.ntmps87
  go_wp2_with fail
  refine (gfnew_calls _).mono ?_
  rintro e w1 ⟨fb, rfl, hF, hB1, hfb⟩
  have HF := Lib.hid hF
  have HB1 := Lib.hid hB1
  clear hF hB1
  go_wp2_with (refine wpList_make_full _ rfl (.tmp 14) (.tmp 14) 89 rfl 0 5 i0 (.int .u8 0) 1 Tryd.underlying89 hi hz0 hz1 .i64 .i64 _ _ (a.size + b.size) rfl rfl (by omega) (by omega) ?_ ?_ (Nat.zero_le _) ?_)
  case refine_1 => rw [hz2]; omega
  case refine_2 => unfold maxLen; omega
  case refine_3 =>
    intro w2 hown hgrow
    have hrow : PolyRow w2 w1.heap.size (a.size + b.size) fun _ => 0 := by
      rcases hown.2 with ⟨h, _⟩ | ⟨g, cap, cur, h, _, hg, hx1, hx2, hsz, hx3⟩
      · cases h
      · injection h with h1 h2 h3
        injection h1 with h1; injection h1 with h1
        subst h1 h3
        refine ⟨cur, hg, by omega, fun j hj => ?_⟩
        have hx4 : (cur.toList.take (a.size + b.size))[j]? = (madeCells #[Value.int .u8 0] (a.size + b.size))[j]? := by
          have := congrArg (fun l => l[j]?) hx3
          simpa using this
        rw [List.getElem?_take, if_pos (by omega), Array.getElem?_toList] at hx4
        rw [hx4]
        exact made_cell _ _ _ _ hj (by simp [Nat.mod_one])
    have hB2 : Below w1.heap.size w1 w2 := (Below.refl _ _).grown hgrow (Nat.le_refl _) (fun k hk => by cases hk)
    have hF2 : FieldAt w2 fb := HF.out.frm (Frm.of_below hB2) (by have := HF.out.lt; omega)
    have hlt : fb < w1.heap.size := HF.out.lt
    have HR := Lib.hid hrow
    have HB2 := Lib.hid hB2
    have HF2 := Lib.hid hF2
    clear hown hgrow hrow hB2 hF2 hi hz0 hz1 hz2
    go_wp2_with fail
    go_loopw [18] (fun i wr => ∃ k : Nat, k ≤ a.size ∧ i = .int .i64 k ∧ PolyRow wr w1.heap.size (a.size + b.size) (conv (sb a) (sb b) k) ∧ Below w1.heap.size w1 wr) (fun i _ => a.size - (intOf i).toNat)
    case atStart => exact ⟨0, Nat.zero_le _, rfl, HR.out.congr (fun j => rfl), HB2.out⟩
    case round =>
      obtain ⟨i, hi, rfl, hR, hB⟩ := hrel
      by_cases hlt2 : i < a.size
      · go_wp2_with fail
        go_loopw [23] (fun x wr => ∃ k : Nat, k ≤ b.size ∧ x = .int .i64 k ∧ PolyRow wr w1.heap.size (a.size + b.size) (convTo (sb a) (sb b) i k) ∧ Below w1.heap.size w1 wr) (fun x _ => b.size - (intOf x).toNat)
        case atStart => exact ⟨0, Nat.zero_le _, rfl, hR.congr (fun j => (convTo_zero _ _ _ _).symm), hB⟩
        case round =>
          clear hR hB
          obtain ⟨k, hk, rfl, hR, hB⟩ := hrel
          by_cases hlt3 : k < b.size
          · have hc := hR.cell (j := i + k) (by omega)
            have hf := hR.frozen (i + k)
            have hFr : FieldAt wr fb := HF.out.frm (Frm.of_below hB) (by omega)
            have HFr := Lib.hid hFr
            have hx1 := sb_lt a i
            have hx2 := sb_lt b k
            have hcl : convTo (sb a) (sb b) i k (i + k) < 256 := by
              unfold convTo; rw [if_neg (by omega), Nat.xor_zero]; exact conv_lt _ _ _ _
            have hg := gm_lt (sb a i) (sb b k)
            have hset := hR.set (g := convTo (sb a) (sb b) i (k + 1)) (i + k) (convTo (sb a) (sb b) i k (i + k) ^^^ gm (sb a i) (sb b k)) (fun j => by
              rw [convTo_step]
              by_cases e : j = i + k
              · subst e; rw [if_pos rfl]
              · rw [if_neg e, if_neg e])
            have HS := Lib.hid hset
            have HB := Lib.hid hB
            have ei := sb_eq hlt2
            have ek := sb_eq hlt3
            clear hR hFr hset hB
            generalize convTo (sb a) (sb b) i k (i + k) = cv at *
            generalize hy1 : sb a i = y1 at *
            generalize hy2 : sb b k = y2 at *
            have b1 : IntKind.i64.wrap ((i : Int) + k) = ((i + k : Nat) : Int) := by rw [IntKind.wrap_i64]; omega
            have b2 : ((i + k : Nat) : Int) < (a.size : Int) + b.size := by omega
            have b3 : (0 : Int) ≤ ((i + k : Nat) : Int) := by omega
            generalize i + k = ik at *
            go_wp2_with fail
            go_region_with (go_at_call 74; refine (gfmul_calls _ fb y1 y2 _ _ rfl rfl hx1 hx2 ?_).mono ?_; exact HFr.out; rintro e w' ⟨rfl, q, rfl⟩)
            all_goals
              rw [u8_xor_nat cv _ hcl hg]
              go_wp2_with fail
              go_roundw
              case rel => exact ⟨k + 1, by omega, by go_num, HS.out, (HB.out.drewN _).setCell (Nat.le_refl _) _⟩
              case measure => simp [intOf]; omega
          · obtain rfl : k = b.size := by omega
            have HR2 := Lib.hid (hR.congr (convTo_end (fun j hj => sb_zero hj) i))
            have HB := Lib.hid hB
            clear hR hB
            go_wp2_with fail
            go_roundw
            case rel => exact ⟨i + 1, by omega, by go_num, HR2.out, HB.out⟩
            case measure => simp [intOf]; omega
      · obtain rfl : i = a.size := by omega
        have hcv := (hR.text (conv_lt _ _ _) (by omega)).text
        have hm := Lib.hid (show mulS a b = ⟨(Lib.trimRightB ((List.range (a.size + b.size)).map fun j => (conv (sb a) (sb b) a.size j).toUInt8) 0).toArray⟩ from rfl)
        have HB := Lib.hid hB
        have hl : ((List.range (a.size + b.size)).map fun j => (conv (sb a) (sb b) a.size j).toUInt8).length ≤ 100000 := by simp; omega
        clear hR hB
        generalize ((List.range (a.size + b.size)).map fun j => (conv (sb a) (sb b) a.size j).toUInt8) = l at *
        go_wp2_with fail
        refine (trim_calls _ ⟨l.toArray⟩ (by show l.toArray.size ≤ _; simpa using hl)).mono ?_
        rintro e w3 ⟨rfl, rfl⟩
        go_wp2_with fail
        go_ret
        refine ⟨by rw [hm.out]; rfl, ?_⟩
        exact HB1.out.trans (HB.out.mono HB1.out.size)
end Go.Proofs.YtmfpmgelhhbfiaaDoor
