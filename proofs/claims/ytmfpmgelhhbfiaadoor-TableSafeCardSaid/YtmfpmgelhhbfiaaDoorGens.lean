/- The generator's 65 bytes. -/
import Derived.Test.YtmfpmgelhhbfiaaDoorGen
namespace Go.Proofs.YtmfpmgelhhbfiaaDoor
open Go.RowKit

def natsOf (s : ByteArray) : List Nat := s.data.toList.map (·.toNat)
theorem natsOf_len (s : ByteArray) : (natsOf s).length = s.size := by simp [natsOf]
theorem natsOf_get (s : ByteArray) (i : Nat) : (natsOf s).getD i 0 = sb s i := by
  unfold natsOf sb
  simp only [List.getD_eq_getElem?_getD, List.getElem?_map]
  cases s.data.toList[i]? <;> rfl
theorem trim0_map (l : List Nat) (h : ∀ x ∈ l, x < 256) : (Lib.trimRightB (l.map (·.toUInt8)) 0).map (·.toNat) = trim0 l := by
  have hm : ∀ m : List Nat, (∀ x ∈ m, x < 256) → ((m.map (·.toUInt8)).dropWhile (· == (0 : UInt8))).map (·.toNat) = m.dropWhile (· == 0) := by
    intro m
    induction m with
    | nil => intro _; rfl
    | cons x m ih =>
      intro hx
      have h1 : x < 256 := hx x (by simp)
      have hid : ∀ m : List Nat, (∀ x ∈ m, x < 256) → (m.map (·.toUInt8)).map (·.toNat) = m := by
        intro m hm
        rw [List.map_map]
        conv => rhs; rw [← List.map_id m]
        apply List.map_congr_left
        intro y hy
        have := hm y hy
        simp; omega
      by_cases e : x = 0
      · subst e
        rw [List.map_cons, List.dropWhile_cons_of_pos (by rfl), List.dropWhile_cons_of_pos (by rfl)]
        exact ih (fun y hy => hx y (by simp [hy]))
      · have hne : (x.toUInt8 == (0 : UInt8)) = false := by
          rw [beq_eq_false_iff_ne]
          intro h
          have := congrArg UInt8.toNat h
          simp at this; omega
        rw [List.map_cons, List.dropWhile_cons_of_neg (by rw [hne]; simp), List.dropWhile_cons_of_neg (by simpa using e), ← List.map_cons (f := fun x : Nat => x.toUInt8)]
        exact hid _ hx
  unfold Lib.trimRightB trim0
  rw [List.map_reverse, ← List.map_reverse (l := l), hm _ (by simpa using h)]
theorem mulS_nats (a b : ByteArray) : natsOf (mulS a b) = mulN (natsOf a) (natsOf b) := by
  unfold mulN
  rw [natsOf_len, natsOf_len, show ((natsOf a).getD · 0) = sb a from funext (natsOf_get a), show ((natsOf b).getD · 0) = sb b from funext (natsOf_get b)]
  rw [← trim0_map _ (by intro x hx; simp at hx; obtain ⟨j, _, rfl⟩ := hx; exact conv_lt _ _ _ _), List.map_map]
  rfl
theorem rootsS_nats (l : List UInt8) : ∀ p, natsOf (rootsS p l) = rootsN (natsOf p) (l.map (·.toNat)) := by
  induction l with
  | nil => intro p; rfl
  | cons c l ih => intro p; rw [rootsS, ih, mulS_nats]; rfl
theorem ptsL_nats : (ptsL 64).map (·.toNat) = genPts := by
  apply List.ext_getElem?
  intro i
  by_cases h : i < 64
  · have hp := pw_lt i
    have hl : expL.length = 255 := by decide +kernel
    have := pw_list (k := i) (by omega)
    simp only [ptsL, genPts, List.map_map, List.getElem?_map, List.getElem?_range h, List.getElem?_take, if_pos h]
    rw [List.getElem?_eq_getElem (show i < expL.length by omega)]
    rw [List.getD_eq_getElem?_getD, List.getElem?_eq_getElem (show i < expL.length by omega)] at this
    simp at this ⊢
    rw [← this]; omega
  · have hl : expL.length = 255 := by decide +kernel
    rw [List.getElem?_eq_none (by simp [ptsL]; omega), List.getElem?_eq_none (by simp [genPts, hl]; omega)]
theorem genS_nats : natsOf genS = genN := by
  unfold genS genN; rw [rootsS_nats, ptsL_nats]; rfl
theorem genS_size : genS.size = 65 := by rw [← natsOf_len, genS_nats, genN_len]
end Go.Proofs.YtmfpmgelhhbfiaaDoor
