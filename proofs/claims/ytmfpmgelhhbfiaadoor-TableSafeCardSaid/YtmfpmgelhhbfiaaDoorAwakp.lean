/- The chapter's example, reckoned. -/
import Derived.Test.YtmfpmgelhhbfiaaDoorTabs
namespace Go.Proofs.YtmfpmgelhhbfiaaDoor
open Go.RowKit

theorem make4_size (f t : ByteArray) (p : Nat) (b : ByteArray) : (make4 f t p b).size = 12 + f.size + t.size + b.size := by
  unfold make4
  simp only [ByteArray.size_append, headOf_size, textOf_size, List.length_cons, List.length_nil]
theorem madeOf_size (n b : Nat) : (madeOf n b).size = 20 + n := by
  unfold madeOf
  rw [make4_size]
  have h4 : (⟨(bodyOf n b).toArray⟩ : ByteArray).size = n := by rw [mk_size0]; simp [bodyOf]
  have h1 : (⟨#[97, 98, 99, 100]⟩ : ByteArray).size = 4 := rfl
  have h2 : (⟨#[101, 102, 103, 104]⟩ : ByteArray).size = 4 := rfl
  omega

theorem made_check : checkOf (madeOf 280 1) = 0 := by decide +kernel

def exB (s : Nat → Nat) : Nat → Nat → Nat := putB 256 0 300 s (fun _ _ => 0)
def exK : Nat → Nat → Bool := padK 189 (putK 256 0 300 (fun _ _ => false))
theorem lost0 : (lostOf exK 0).length = 64 := by decide +kernel
theorem lost44 : (lostOf exK 44).length = 65 := by decide +kernel
theorem exB_lt (s : ByteArray) (r c : Nat) : exB (sb s) r c < 256 := by
  unfold exB putB
  split
  · exact sb_lt _ _
  · exact (by decide : 0 < 256)
theorem sb_byte {d : ByteArray} {i : Nat} (h : i < d.data.toList.length) : (sb d i).toUInt8 = d.data.toList[i] := by
  unfold sb
  rw [List.getD_eq_getElem?_getD, List.getElem?_eq_getElem h]
  simp

theorem ex_out {r : List (Nat × ByteArray)} (h : OutFrom 256 (exB (sb (madeOf 280 1))) exK [0] 0 r) : r = [(0, madeOf 280 1)] := by
  have hs : (madeOf 280 1).size = 300 := madeOf_size 280 1
  have hc := made_check
  generalize madeOf 280 1 = d at *
  rw [ba_size] at hs
  have hk : knownL 256 (exB (sb d)) exK 4080 0 = d.data.toList ++ [] := by
    rw [knownL_told 256 (exB (sb d)) exK d.data.toList 4080 0 (by omega), hs]
    · rw [knownL_none (p := 0 + 300) (fun _ => by decide)]
    · intro i hi
      refine ⟨by omega, ?_, ?_⟩
      · unfold exK padK putK
        by_cases g : 191 - 189 ≤ (0 + i) / 256 ∧ (0 + i) / 256 < 191
        · rw [if_pos g]
        · rw [if_neg g, if_pos (by omega)]
      · unfold exB putB
        rw [if_pos (by omega), show (0 + i) / 256 * 256 + (0 + i) % 256 - 0 = i by omega]
        exact sb_byte hi
  refine h.unique _ (.told 0 d [] ?_ (.stop _ ?_ ?_))
  · rw [hk]; exact first_append [] hc
  · have : d.size = 300 := by rw [ba_size]; exact hs
    rw [this, knownL_none (p := 0 + 300) (fun _ => by decide)]
    exact first_empty
  · have : d.size = 300 := by rw [ba_size]; exact hs
    rw [this]; decide

end Go.Proofs.YtmfpmgelhhbfiaaDoor
