/- The datagram with which bytes begin. -/
import Derived.Test.YtmfpmgelhhbfiaaDoorKnown
namespace Go.Proofs.YtmfpmgelhhbfiaaDoor
open Go.RowKit

def fst (p : Hd × Nat) (s : ByteArray) : Option ByteArray :=
  if p.2 ≠ 0 then none
  else if s.size < p.1.len then none
  else if checkOf (s.extract 0 p.1.len) ≠ 0 then none
  else some (s.extract 0 p.1.len)
/-- The datagram with which bytes begin. -/
def firstOf (s : ByteArray) : Option ByteArray := fst (peekOf s) s
def firstV : Option ByteArray → Value
  | none => .tuple #[.string ⟨#[]⟩, .bool false]
  | some x => .tuple #[.string x, .bool true]

set_option maxRecDepth 100000 in
set_option maxHeartbeats 2000000 in
theorem first_calls (w : World) (s : ByteArray) (hs : s.size ≤ 9223372036854775807) :
    Calls Tryd.prog 29 #[.string s] w fun e w' => e = .returned (firstV (firstOf s)) ∧ Below w.heap.size w w' := by
  have hp := peek_calls w s hs
  unfold firstOf
  generalize peekOf s = p at *
  obtain ⟨⟨v, h, l, pr⟩, e⟩ := p
  rw [peekV_eq] at hp
  have HP := Lib.hid hp
  clear hp
  by_cases he : e = 0
  · subst he
    by_cases c1 : s.size < l
    · have hC : fst (⟨v, h, l, pr⟩, 0) s = none := by simp [fst, c1]
      rw [hC]
      have d1 : decide (s.size < l) = true := by simpa using c1
      clear hC c1
      go_enter Tryd.func29, Tryd.ntmps29
      go_wp2_with fail
      refine HP.out.mono ?_
      rintro e w1 ⟨rfl, hB⟩
      have HB := Lib.hid hB
      clear hB
      go_wp2_with fail
      go_ret2
      exact ⟨rfl, HB.out.alloc HB.out.size _⟩
    have d1 : decide (s.size < l) = false := by simpa using c1
    have d2 : l ≤ s.size := by omega
    by_cases c2 : checkOf (s.extract 0 l) = 0
    · have hC : fst (⟨v, h, l, pr⟩, 0) s = some (s.extract 0 l) := by simp [fst, c1, c2]
      rw [hC]
      have H2 := Lib.hid c2
      clear hC c1 c2
      go_enter Tryd.func29, Tryd.ntmps29
      go_wp2_with fail
      refine HP.out.mono ?_
      rintro e w1 ⟨rfl, hB⟩
      have HB := Lib.hid hB
      clear hB
      go_wp2_with fail
      refine (check_calls _ (s.extract 0 l) (by have := size_extract0 s l; omega)).mono ?_
      rintro e w2 ⟨rfl, hB2⟩
      obtain ⟨bc, bf⟩ := bcell hB2
      have HB2 := Lib.hid hB2
      rw [H2.out]
      clear hB2
      go_wp2_with fail
      go_ret2
      exact ⟨rfl, (HB.out.alloc HB.out.size _).trans (HB2.out.mono (by have := HB.out.size; simp; omega))⟩
    · have hC : fst (⟨v, h, l, pr⟩, 0) s = none := by simp [fst, c1, c2]
      rw [hC]
      have d4 := err_ne c2
      clear hC c1 c2
      go_enter Tryd.func29, Tryd.ntmps29
      go_wp2_with fail
      refine HP.out.mono ?_
      rintro e w1 ⟨rfl, hB⟩
      have HB := Lib.hid hB
      clear hB
      go_wp2_with fail
      refine (check_calls _ (s.extract 0 l) (by have := size_extract0 s l; omega)).mono ?_
      rintro e w2 ⟨rfl, hB2⟩
      have HB2 := Lib.hid hB2
      clear hB2
      generalize checkOf (s.extract 0 l) = S at *
      go_wp2_with fail
      go_ret2
      exact ⟨rfl, (HB.out.alloc HB.out.size _).trans (HB2.out.mono (by have := HB.out.size; simp; omega))⟩
  · have hC : fst (⟨v, h, l, pr⟩, e) s = none := by simp [fst, he]
    rw [hC]
    have d1 := err_ne he
    clear hC
    go_enter Tryd.func29, Tryd.ntmps29
    go_wp2_with fail
    refine HP.out.mono ?_
    rintro e w1 ⟨rfl, hB⟩
    have HB := Lib.hid hB
    clear hB
    go_wp2_with fail
    go_ret2
    exact ⟨rfl, HB.out.alloc HB.out.size _⟩

end Go.Proofs.YtmfpmgelhhbfiaaDoor
