/- The laws' Made is a datagram. -/
import Derived.Test.YtmfpmgelhhbfiaaDoorAwakp
namespace Go.Proofs.YtmfpmgelhhbfiaaDoor
open Go.RowKit

def wsum (s : Nat → Nat) : Nat → Nat
  | 0 => 0
  | k + 1 => wsum s k + (256 * s (2 * k) + s (2 * k + 1))
theorem hilo_wsum (s : ByteArray) (k : Nat) : 256 * hiTo s (2 * k) + loTo s (2 * k) = wsum (sb s) k := by
  induction k with
  | zero => rfl
  | succ k ih =>
    have e1 : hiTo s (2 * (k + 1)) = hiTo s (2 * k) + sb s (2 * k) := by
      rw [show 2 * (k + 1) = 2 * k + 1 + 1 by omega]
      simp only [hiTo]
      rw [if_pos (by omega), if_neg (by omega), Nat.add_zero]
    have e2 : loTo s (2 * (k + 1)) = loTo s (2 * k) + sb s (2 * k + 1) := by
      rw [show 2 * (k + 1) = 2 * k + 1 + 1 by omega]
      simp only [loTo]
      rw [if_pos (by omega), if_neg (by omega), Nat.add_zero]
    rw [e1, e2, wsum]; omega
theorem fold16_add (a w : Nat) (hw : w ≤ 65535) : fold16 (a + w) = if 65535 < fold16 a + w then fold16 a + w - 65535 else fold16 a + w := by
  unfold fold16
  by_cases ha : a = 0
  · subst ha
    by_cases h0 : w = 0
    · subst h0; rfl
    · rw [if_neg (by omega), if_pos rfl, if_neg (by omega)]; omega
  · rw [if_neg (by omega), if_neg ha]
    by_cases h : 65535 < (a - 1) % 65535 + 1 + w
    · rw [if_pos h]; omega
    · rw [if_neg h]; omega
theorem refAcc_fold (s : ByteArray) (k : Nat) : refAcc s k = fold16 (wsum (sb s) k) := by
  induction k with
  | zero => rfl
  | succ k ih =>
    have h1 := sb_lt s (2 * k)
    have h2 := sb_lt s (2 * k + 1)
    rw [wsum, fold16_add _ _ (by omega), ← ih, refAcc, Nat.add_assoc]
theorem wsum_congr {s t : Nat → Nat} (k : Nat) (h : ∀ i, i < 2 * k → s i = t i) : wsum s k = wsum t k := by
  induction k with
  | zero => rfl
  | succ k ih => rw [wsum, wsum, ih (fun i hi => h i (by omega)), h (2 * k) (by omega), h (2 * k + 1) (by omega)]
theorem wsum_pos {s : Nat → Nat} (h : 0 < s 0) (k : Nat) : 0 < wsum s (k + 1) := by
  induction k with
  | zero => rw [wsum]; simp only [wsum, Nat.mul_zero]; omega
  | succ k ih => rw [wsum]; omega
theorem wsum_ten (s : Nat → Nat) : wsum s 10 = wsum s 5 + (256 * s 10 + s 11) + (256 * s 12 + s 13) + (256 * s 14 + s 15) + (256 * s 16 + s 17) + (256 * s 18 + s 19) := rfl

theorem sb_append (a b : ByteArray) (i : Nat) : sb (a ++ b) i = if i < a.size then sb a i else sb b (i - a.size) := by
  unfold sb
  have hs : a.size = a.data.toList.length := ba_size a
  rw [ByteArray.data_append, Array.toList_append]
  simp only [List.getD_eq_getElem?_getD]
  by_cases h : i < a.size
  · rw [if_pos h, List.getElem?_append_left (by omega)]
  · rw [if_neg h, List.getElem?_append_right (by omega), hs]
theorem sb_textOf (l : List Nat) (h : ∀ x, x ∈ l → x < 256) (i : Nat) : sb (textOf l) i = l.getD i 0 := by
  unfold sb textOf
  simp only [List.getD_eq_getElem?_getD, List.getElem?_map]
  cases hx : l[i]? with
  | none => rfl
  | some x =>
    have := h x (List.mem_of_getElem? hx)
    simp; omega
theorem sb_extract0 (s : ByteArray) (h i : Nat) (hi : i < h) : sb (s.extract 0 h) i = sb s i := by
  unfold sb
  rw [Lib.extract_from_zero]
  simp only [List.getD_eq_getElem?_getD, List.getElem?_take, if_pos hi]

theorem make4_peek (f t b : ByteArray) (p : Nat) (hb : b.size ≤ 4060) (hp : p < 256) (hf : f.size = 4) (ht : t.size = 4) : peekOf (make4 f t p b) = (⟨4, 20, 20 + b.size, p⟩, 0) := by
  have hz := make4_size f t p b
  have hh : ∀ i, i < 10 → sb (make4 f t p b) i = sb (headOf (20 + b.size) p) i := by
    intro i hi
    have := headOf_size (20 + b.size) p
    rw [make4_eq]
    simp only [ByteArray.append_assoc]
    rw [sb_append, if_pos (by omega)]
  have hH : ∀ i, sb (headOf (20 + b.size) p) i = [69, 0, (20 + b.size) / 256, (20 + b.size) % 256, 0, 0, 0, 0, 64, p].getD i 0 := by
    intro i
    unfold headOf
    exact sb_textOf _ (by intro x hx; simp at hx; omega) i
  generalize make4 f t p b = d at *
  have e0 : sb d 0 = 69 := by rw [hh 0 (by omega), hH]; rfl
  have e2 : sb d 2 = (20 + b.size) / 256 := by rw [hh 2 (by omega), hH]; rfl
  have e3 : sb d 3 = (20 + b.size) % 256 := by rw [hh 3 (by omega), hH]; rfl
  have e9 : sb d 9 = p := by rw [hh 9 (by omega), hH]; rfl
  have e23 : pairAt d 2 = 20 + b.size := by unfold pairAt; rw [e2, e3]; omega
  unfold peekOf
  rw [e0, e23, e9, if_neg (by omega), if_pos (by decide), if_neg (by omega), if_neg (by omega), if_neg (by omega)]

theorem make4_sum (f t b : ByteArray) (p : Nat) (hp : p < 256) (hb : b.size ≤ 4060) (hf : f.size = 4) (ht : t.size = 4) : sumOf ((make4 f t p b).extract 0 20) = 0 := by
  have hHs := headOf_size (20 + b.size) p
  have hC := refSum_le (headOf (20 + b.size) p ++ ⟨#[0, 0]⟩ ++ f ++ t)
  have hO : (⟨#[0, 0]⟩ : ByteArray).size = 2 := rfl
  have hH0 : sb (headOf (20 + b.size) p) 0 = 69 := by
    unfold headOf
    rw [sb_textOf _ (by intro x hx; simp at hx; omega)]; rfl
  have hsz := make4_size f t p b
  rw [make4_eq] at *
  have hz : refSum (headOf (20 + b.size) p ++ ⟨#[0, 0]⟩ ++ f ++ t) = 65535 - fold16 (wsum (sb (headOf (20 + b.size) p ++ ⟨#[0, 0]⟩ ++ f ++ t)) 10) := by
    unfold refSum
    rw [show ((headOf (20 + b.size) p ++ ⟨#[0, 0]⟩ ++ f ++ t).size + 1) / 2 = 10 by simp only [ByteArray.size_append, hO]; omega, refAcc_fold]
  generalize headOf (20 + b.size) p = H at *
  have z10 : sb (H ++ ⟨#[0, 0]⟩ ++ f ++ t) 10 = 0 := by
    simp only [ByteArray.append_assoc]
    rw [sb_append, if_neg (by omega), sb_append, hO, if_pos (by omega), hHs]; rfl
  have z11 : sb (H ++ ⟨#[0, 0]⟩ ++ f ++ t) 11 = 0 := by
    simp only [ByteArray.append_assoc]
    rw [sb_append, if_neg (by omega), sb_append, hO, if_pos (by omega), hHs]; rfl
  have zlo : ∀ i, i < 10 → sb (H ++ ⟨#[0, 0]⟩ ++ f ++ t) i = sb H i := by
    intro i hi
    simp only [ByteArray.append_assoc]
    rw [sb_append, if_pos (by omega)]
  have zhi : ∀ i, 12 ≤ i → i < 20 → sb (H ++ ⟨#[0, 0]⟩ ++ f ++ t) i = sb (f ++ t) (i - 12) := by
    intro i hi hi2
    simp only [ByteArray.append_assoc]
    rw [sb_append, if_neg (by omega), sb_append, hO, if_neg (by omega), hHs]
    congr 1 <;> omega
  generalize hCC : refSum (H ++ ⟨#[0, 0]⟩ ++ f ++ t) = C at *
  have hT : (textOf [C / 256, C % 256]).size = 2 := textOf_size _
  have tT : ∀ i, sb (textOf [C / 256, C % 256]) i = [C / 256, C % 256].getD i 0 := fun i => sb_textOf _ (by intro x hx; simp at hx; omega) i
  generalize textOf [C / 256, C % 256] = T at *
  have dlo : ∀ i, i < 10 → sb (H ++ T ++ f ++ t ++ b) i = sb H i := by
    intro i hi
    simp only [ByteArray.append_assoc]
    rw [sb_append, if_pos (by omega)]
  have d10 : sb (H ++ T ++ f ++ t ++ b) 10 = C / 256 := by
    simp only [ByteArray.append_assoc]
    rw [sb_append, if_neg (by omega), sb_append, if_pos (by omega), hHs, tT]; rfl
  have d11 : sb (H ++ T ++ f ++ t ++ b) 11 = C % 256 := by
    simp only [ByteArray.append_assoc]
    rw [sb_append, if_neg (by omega), sb_append, if_pos (by omega), hHs, tT]; rfl
  have dhi : ∀ i, 12 ≤ i → i < 20 → sb (H ++ T ++ f ++ t ++ b) i = sb (f ++ t) (i - 12) := by
    intro i hi hi2
    rw [show H ++ T ++ f ++ t ++ b = H ++ (T ++ (f ++ t ++ b)) by simp only [ByteArray.append_assoc]]
    rw [sb_append, if_neg (by omega), sb_append, if_neg (by omega), sb_append, if_pos (by rw [ByteArray.size_append]; omega), hHs, hT]
    congr 1 <;> omega
  have hx : ((H ++ T ++ f ++ t ++ b).extract 0 20).size = 2 * 10 := by rw [ByteArray.size_extract]; omega
  have hs : ∀ i, i < 2 * 10 → sb ((H ++ T ++ f ++ t ++ b).extract 0 20) i = sb (H ++ T ++ f ++ t ++ b) i := fun i hi => sb_extract0 _ _ _ (by omega)
  unfold sumOf
  rw [hx, hilo_wsum, wsum_congr 10 hs]
  generalize H ++ T ++ f ++ t ++ b = d at *
  generalize H ++ ⟨#[0, 0]⟩ ++ f ++ t = z at *
  have hw : wsum (sb d) 10 = wsum (sb z) 10 + C := by
    rw [wsum_ten, wsum_ten, wsum_congr (s := sb d) (t := sb z) 5 (fun i hi => by rw [dlo i (by omega), zlo i (by omega)])]
    rw [d10, d11, z10, z11]
    rw [dhi 12 (by omega) (by omega), dhi 13 (by omega) (by omega), dhi 14 (by omega) (by omega), dhi 15 (by omega) (by omega), dhi 16 (by omega) (by omega), dhi 17 (by omega) (by omega), dhi 18 (by omega) (by omega), dhi 19 (by omega) (by omega)]
    rw [zhi 12 (by omega) (by omega), zhi 13 (by omega) (by omega), zhi 14 (by omega) (by omega), zhi 15 (by omega) (by omega), zhi 16 (by omega) (by omega), zhi 17 (by omega) (by omega), zhi 18 (by omega) (by omega), zhi 19 (by omega) (by omega)]
    omega
  have hpos : 0 < wsum (sb z) 10 := by
    have h0 : sb z 0 = 69 := by rw [zlo 0 (by omega), hH0]
    exact wsum_pos (by omega) 9
  rw [hw, hz]
  generalize wsum (sb z) 10 = S at *
  unfold fold16
  rw [if_neg (by omega), if_neg (by omega)]
  omega

theorem make4_check (f t b : ByteArray) (p : Nat) (hb : b.size ≤ 4060) (hp : p < 256) (hf : f.size = 4) (ht : t.size = 4) : checkOf (make4 f t p b) = 0 := by
  unfold checkOf
  rw [make4_peek f t b p hb hp hf ht]
  have hs := make4_size f t p b
  have h0 := make4_sum f t b p hp hb hf ht
  unfold chk
  rw [if_neg (by simp), if_neg (by simp only; omega), if_neg (by simp only; omega), if_neg]
  rintro ⟨_, h⟩
  exact h h0

theorem madeOf_check (n b : Nat) (hn : n ≤ 4060) (hb : b < 256) : checkOf (madeOf n b) = 0 := by
  unfold madeOf
  refine make4_check _ _ _ _ ?_ hb rfl rfl
  rw [mk_size0]; simp [bodyOf]; exact hn

end Go.Proofs.YtmfpmgelhhbfiaaDoor
