/- Package rs: the generator, walked. -/
import Derived.Test.YtmfpmgelhhbfiaaDoorPoly
namespace Go.Proofs.YtmfpmgelhhbfiaaDoor
open Go.RowKit

def rootsS (p : ByteArray) : List UInt8 → ByteArray
  | [] => p
  | c :: l => rootsS (mulS p ⟨#[c, 1]⟩) l

theorem mulS_size (a b : ByteArray) : (mulS a b).size ≤ a.size + b.size := by
  show (mulS a b).data.size ≤ _
  unfold mulS Lib.trimRightB
  have h := ((List.dropWhile_suffix (l := ((List.range (a.size + b.size)).map fun j => (conv (sb a) (sb b) a.size j).toUInt8).reverse) (fun x => x == 0)).length_le)
  simp only [List.size_toArray, List.length_reverse] at *
  simpa using h

theorem pair_row (W : World) (x : UInt8) : ByteRow (W.alloc (.cells #[.int .u8 (x.toNat : Int), .int .u8 1] 5)) (.slice (some ⟨W.heap.size, 0, none⟩) 2 2) [x, 1] := by
  refine ⟨by simp, .inr ⟨W.heap.size, 2, #[.int .u8 (x.toNat : Int), .int .u8 1], rfl, Nat.zero_le _, RowAt.new W _ _, by simp, by unfold maxLen; omega, by simp, ?_⟩⟩
  rfl

set_option maxRecDepth 100000
set_option maxHeartbeats 2000000
theorem roots_calls (w : World) (s : ByteArray) (hs : s.size ≤ 100) :
    Calls Tryd.prog 85 #[.string s] w fun e w' => e = .returned (.string (rootsS ⟨#[1]⟩ s.data.toList)) ∧ Below w.heap.size w w' := by
  go_enter Tryd.func85, Tryd.ntmps85
  go_wp2_with fail
  go_loopw [3, 7] (fun v i wr => ∃ (k : Nat) (p : ByteArray), k ≤ s.size ∧ i = .int .i64 k ∧ v = .string p ∧ p.size ≤ 1 + 2 * k ∧ rootsS ⟨#[1]⟩ s.data.toList = rootsS p (s.data.toList.drop k) ∧ Below w.heap.size w wr) (fun _ i _ => s.size - (intOf i).toNat)
  case atStart => exact ⟨0, _, Nat.zero_le _, rfl, rfl, by decide, rfl, Below.refl _ _⟩
  case round =>
    obtain ⟨k, p, hk, rfl, rfl, hp, hr, hB⟩ := hrel
    by_cases hlt : k < s.size
    · have hd : s.data.toList.drop k = s[k]'hlt :: s.data.toList.drop (k + 1) := by
        rw [List.drop_eq_getElem_cons (by simpa using hlt)]
        rfl
      have hrow := (pair_row wr (s[k]'hlt)).text
      rw [hd, rootsS] at hr
      have hz := mulS_size p ⟨#[s[k]'hlt, 1]⟩
      have hz2 : (⟨#[s[k]'hlt, 1]⟩ : ByteArray).size = 2 := rfl
      have HR := Lib.hid hr
      have HB := Lib.hid hB
      clear hr hB hd
      generalize hx : (s[k]'hlt) = x at *
      go_wp2_with fail
      refine (mul_calls _ p ⟨#[x, 1]⟩ (by omega) (by rw [hz2]; decide)).mono ?_
      rintro e w1 ⟨rfl, hB1⟩
      have HB1 := Lib.hid hB1
      clear hB1
      generalize hm : mulS p ⟨#[x, 1]⟩ = m at *
      go_wp2_with fail
      go_roundw
      case rel => exact ⟨k + 1, m, by omega, by go_num, rfl, by omega, HR.out, (HB.out.alloc (by have := HB.out.size; omega) _).trans (HB1.out.mono (by have := HB.out.size; simp; omega))⟩
      case measure => simp [intOf]; omega
    · obtain rfl : k = s.size := by omega
      rw [List.drop_eq_nil_of_le (by simp), rootsS] at hr
      go_wp2_with fail
      go_ret
      refine ⟨?_, hB⟩
      rw [hr]; rfl
end Go.Proofs.YtmfpmgelhhbfiaaDoor

namespace Go.Proofs.YtmfpmgelhhbfiaaDoor
open Go.RowKit

def ptsL (k : Nat) : List UInt8 := (List.range k).map fun j => (pw j).toUInt8
def genS : ByteArray := rootsS ⟨#[1]⟩ (ptsL 64)

set_option maxRecDepth 100000
set_option maxHeartbeats 2000000
theorem gen_calls (w : World) : Calls Tryd.prog 73 #[] w fun e w' => e = .returned (.string genS) ∧ Below w.heap.size w w' := by
  obtain ⟨i0, hi, hz0, hz1, hz2⟩ := info_parts Tryd.infob
  go_enter Tryd.func73, Tryd.ntmps73
  go_wp2_with fail
  refine (gfnew_calls _).mono ?_
  rintro e w1 ⟨fb, rfl, hF, hB1, hfb⟩
  have hfl := hF.lt
  have HF := Lib.hid hF
  have HB1 := Lib.hid hB1
  clear hF hB1
  go_wp2_with fail
  go_loopw [2, 5] (fun v i wr => ∃ k : Nat, k ≤ 64 ∧ i = .int .i64 k ∧ ByteRow wr v (ptsL k) ∧ Below w1.heap.size w1 wr ∧ (∀ k, v.ownBlock = some k → w1.heap.size ≤ k)) (fun _ i _ => 64 - (intOf i).toNat)
  case atStart => exact ⟨0, Nat.zero_le _, rfl, ByteRow.nil _, Below.refl _ _, fun k hk => by cases hk⟩
  case round =>
    obtain ⟨k, hk, rfl, hI, hB, hown⟩ := hrel
    have hFr : FieldAt wr fb := HF.out.frm (Frm.of_below hB) (by omega)
    have HFr := Lib.hid hFr
    have HI := Lib.hid hI
    have HB := Lib.hid hB
    have HO := Lib.hid hown
    have hl : (ptsL k).length = k := by simp [ptsL]
    clear hFr hB hown
    by_cases hlt : k < 64
    · have hpl : ptsL (k + 1) = ptsL k ++ [(pw k).toUInt8] := by simp [ptsL, List.range_succ]
      have hx := pw_lt k
      go_wp2_with fail
      refine (gfexp_calls _ fb k _ rfl (by omega) HFr.out).mono ?_
      rintro e w2 ⟨rfl, q, rfl⟩
      generalize pw k = x at *
      have hxb : byteV x.toUInt8 = .int .u8 (x : Int) := by
        unfold byteV; congr 1
        simp; omega
      have HP := Lib.hid hpl
      have HX := Lib.hid hxb
      have hI2 : ((wr.drewN q).alloc (.cells #[.int .u8 (x : Int)] 5)).ownsRow 0 5 1 u2 (ptsL k).length ((ptsL k).map byteV) := World.ownsRow.alloc (HI.out.drewN q) _
      have HI2 := Lib.hid hI2
      have HC0 := Lib.hid (RowAt.new (wr.drewN q) 5 #[.int .u8 (x : Int)])
      clear hxb hI2 hpl hx hI
      go_wp2_with (at_builtin; refine wpList_append_own_at _ rfl _ _ 89 rfl 0 5 i0 (.int .u8 0) 1 1 Tryd.underlying89 hi hz0 hz1 hz2 rfl (by decide) _ _ _ rfl HI2.out ⟨wr.heap.size, 0, none⟩ 1 1 [.int .u8 (x : Int)] rfl rfl ?_ ?_ ?_ ?_ (Nat.zero_le _) ?_)
      case refine_1 => exact cells_one (HC0.out.cell 0)
      case refine_2 => intro u hu; simp at hu; subst hu; rfl
      case refine_3 => unfold maxLen; omega
      case refine_4 => omega
      case refine_5 =>
        intro v' w2 hown1 hgrow _ hloc
        have hI1 : ByteRow w2 v' (ptsL (k + 1)) := by
          unfold ByteRow; rw [HP.out, List.map_append, List.map_cons, List.map_nil, HX.out, List.length_append, hl]; exact hown1
        have hB1 : Below w1.heap.size w1 w2 := by
          refine ((HB.out.drewN q).alloc HB.out.size _).grown hgrow (by have := HB.out.size; simp; omega) (fun k hk => ?_)
          exact HO.out k hk
        have ho1 : ∀ k, v'.ownBlock = some k → w1.heap.size ≤ k := by
          intro k hk
          rcases hloc with h | h
          · exact HO.out k (by rw [← h, hk])
          · rw [h] at hk; cases hk; have := HB.out.size; simp; omega
        clear hown1 hgrow hloc HI2 HC0
        have H1 := Lib.hid hI1
        have H2 := Lib.hid hB1
        have H3 := Lib.hid ho1
        clear hI1 hB1 ho1
        go_wp2_with fail
        go_roundw
        case rel => exact ⟨k + 1, by omega, by go_num, H1.out, H2.out, H3.out⟩
        case measure => simp [intOf]; omega
    · obtain rfl : k = 64 := by omega
      have hcv := HI.out.text
      have hs : (⟨(ptsL 64).toArray⟩ : ByteArray).size ≤ 100 := by show (ptsL 64).toArray.size ≤ 100; simp [ptsL]
      have hg : genS = rootsS ⟨#[1]⟩ (ptsL 64) := rfl
      have HG := Lib.hid hg
      clear hI hg hl
      generalize ptsL 64 = l at *
      go_wp2_with fail
      refine (roots_calls _ ⟨l.toArray⟩ hs).mono ?_
      rintro e w3 ⟨rfl, hB3⟩
      have HB3 := Lib.hid hB3
      clear hB3
      go_wp2_with fail
      go_ret
      refine ⟨?_, ?_⟩
      · rw [HG.out]; rfl
      · exact HB1.out.trans ((HB.out.mono HB1.out.size).trans (HB3.out.mono (by have := HB.out.size; have := HB1.out.size; omega)))
end Go.Proofs.YtmfpmgelhhbfiaaDoor
