/- What a table tells of datagrams that are known. -/
import Derived.Test.YtmfpmgelhhbfiaaDoorOut
import Derived.Test.YtmfpmgelhhbfiaaDoorMaden
namespace Go.Proofs.YtmfpmgelhhbfiaaDoor
open Go.RowKit

theorem ba_size (s : ByteArray) : s.size = s.data.toList.length := by show s.data.size = _; simp

theorem sb_append_left (d : ByteArray) (r : List UInt8) (i : Nat) (h : i < d.size) : sb ⟨(d.data.toList ++ r).toArray⟩ i = sb d i := by
  rw [ba_size] at h
  unfold sb
  simp only [List.getD_eq_getElem?_getD]
  rw [List.getElem?_append_left h]

theorem size_append_mk (d : ByteArray) (r : List UInt8) : (⟨(d.data.toList ++ r).toArray⟩ : ByteArray).size = d.size + r.length := by
  rw [mk_size, List.length_append, ba_size]

theorem peek_append {d : ByteArray} (r : List UInt8) (h : (peekOf d).2 = 0) : peekOf ⟨(d.data.toList ++ r).toArray⟩ = peekOf d := by
  have hs := size_append_mk d r
  have hsb := sb_append_left d r
  generalize (⟨(d.data.toList ++ r).toArray⟩ : ByteArray) = s at *
  have h0 : 20 ≤ d.size := by
    unfold peekOf at h
    (repeat' split at h) <;> simp at h <;> omega
  have e0 := hsb 0 (by omega)
  have e2 := hsb 2 (by omega)
  have e3 := hsb 3 (by omega)
  have e4 := hsb 4 (by omega)
  have e5 := hsb 5 (by omega)
  have e6 := hsb 6 (by omega)
  have e9 := hsb 9 (by omega)
  have p2 : pairAt s 2 = pairAt d 2 := by unfold pairAt; rw [e2, e3]
  have p4 : pairAt s 4 = pairAt d 4 := by unfold pairAt; rw [e4, e5]
  unfold peekOf at h ⊢
  rw [e0, p2, p4, e6, e9]
  rw [if_neg (show ¬ s.size = 0 by omega), if_neg (show ¬ d.size = 0 by omega), if_neg (show ¬ s.size < 20 by omega), if_neg (show ¬ d.size < 20 by omega)]
  rw [if_neg (show ¬ d.size = 0 by omega), if_neg (show ¬ d.size < 20 by omega)] at h
  by_cases c4 : sb d 0 / 16 = 4
  · rw [if_pos c4, if_pos c4]
  · rw [if_neg c4, if_neg c4]
    rw [if_neg c4] at h
    by_cases c6 : sb d 0 / 16 = 6
    · rw [if_pos c6, if_pos c6]
      rw [if_pos c6] at h
      by_cases c40 : d.size < 40
      · rw [if_pos c40] at h; simp at h
      · rw [if_neg c40, if_neg (by omega)]
    · rw [if_neg c6, if_neg c6]

theorem extract_append_left (d : ByteArray) (r : List UInt8) : (⟨(d.data.toList ++ r).toArray⟩ : ByteArray).extract 0 d.size = d := by
  apply ByteArray.ext
  apply Array.ext'
  rw [Lib.extract_from_zero]
  simp only [ba_size]
  simp

theorem check_ok {d : ByteArray} (h : checkOf d = 0) : (peekOf d).2 = 0 ∧ (peekOf d).1.len = d.size := by
  unfold checkOf chk at h
  split at h
  · omega
  · split at h
    · omega
    · split at h
      · omega
      · rename_i a b c
        exact ⟨by simpa using a, by omega⟩

/-- Of bytes that begin with a datagram that is one it is told. -/
theorem first_append {d : ByteArray} (r : List UInt8) (h : checkOf d = 0) : firstOf ⟨(d.data.toList ++ r).toArray⟩ = some d := by
  obtain ⟨h1, h2⟩ := check_ok h
  unfold firstOf
  rw [peek_append r h1]
  unfold fst
  rw [if_neg (by rw [h1]; simp), h2, size_append_mk, if_neg (by omega), extract_append_left, if_neg (by rw [h]; simp)]

theorem first_empty : firstOf ⟨([] : List UInt8).toArray⟩ = none := by decide

theorem knownL_told (n : Nat) (B : Nat → Nat → Nat) (K : Nat → Nat → Bool) (d : List UInt8) : ∀ (f p : Nat), d.length ≤ f →
    (∀ i (h : i < d.length), p + i < 191 * n ∧ K ((p + i) % n) ((p + i) / n) = true ∧ (B ((p + i) % n) ((p + i) / n)).toUInt8 = d[i]) →
    knownL n B K f p = d ++ knownL n B K (f - d.length) (p + d.length) := by
  induction d with
  | nil => intro f p _ _; simp
  | cons a d ih =>
    intro f p hf h
    obtain ⟨f, rfl⟩ : ∃ g, f = g + 1 := ⟨f - 1, by simp at hf; omega⟩
    obtain ⟨h1, h2, h3⟩ := h 0 (by simp)
    rw [Nat.add_zero] at h1 h2 h3
    rw [knownL, if_pos ⟨h1, h2⟩, ih f (p + 1) (by simp at hf; omega)]
    · rw [h3, List.length_cons, Nat.add_sub_add_right, show p + 1 + d.length = p + (d.length + 1) by omega]; rfl
    · intro i hi
      have := h (i + 1) (by simpa using hi)
      rw [show p + (i + 1) = p + 1 + i by omega] at this
      simpa using this

theorem knownL_none {n : Nat} {B : Nat → Nat → Nat} {K : Nat → Nat → Bool} {p : Nat} (h : p < 191 * n → K (p % n) (p / n) = false) (f : Nat) : knownL n B K f p = [] := by
  cases f with
  | zero => rfl
  | succ f =>
    rw [knownL, if_neg]
    rintro ⟨h1, h2⟩
    rw [h h1] at h2; cases h2

theorem OutFrom.unique {n : Nat} {B : Nat → Nat → Nat} {K : Nat → Nat → Bool} {l : List Nat} {p : Nat} {r : List (Nat × ByteArray)} (h : OutFrom n B K l p r) : ∀ r', OutFrom n B K l p r' → r = r' := by
  induction h with
  | told p s r h1 h2 ih =>
    intro r' h'
    cases h' with
    | told _ s' r2 h3 h4 => rw [h1] at h3; cases h3; rw [ih _ h4]
    | next _ q _ h3 => rw [h1] at h3; cases h3
    | stop _ h3 => rw [h1] at h3; cases h3
  | next p q r h1 h2 h3 ih =>
    intro r' h'
    cases h' with
    | told _ s' r2 h4 => rw [h1] at h4; cases h4
    | next _ q' _ h4 h5 h6 => rw [h2] at h5; cases h5; exact ih _ h6
    | stop _ h4 h5 => rw [h2] at h5; cases h5
  | stop p h1 h2 =>
    intro r' h'
    cases h' with
    | told _ s' r2 h4 => rw [h1] at h4; cases h4
    | next _ q' _ h4 h5 h6 => rw [h2] at h5; cases h5
    | stop => rfl

end Go.Proofs.YtmfpmgelhhbfiaaDoor
