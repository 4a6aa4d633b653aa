/- The numbers of a byte: powers of 2, logarithms, products. Plain. -/
namespace Go.Proofs.YtmfpmgelhhbfiaaDoor
set_option maxRecDepth 100000

/-- Twice a byte. -/
def nxt (x : Nat) : Nat := if 256 ≤ 2 * x then (2 * x) ^^^ 285 else 2 * x
/-- The powers of 2. -/
def pw : Nat → Nat
  | 0 => 1
  | k + 1 => nxt (pw k)
/-- The logarithm that is noted behind k rounds. -/
def lgTo : Nat → Nat → Nat
  | 0, _ => 0
  | k + 1, v => if v = pw k then k else lgTo k v
def listP : Nat → Nat → List Nat
  | 0, _ => []
  | k + 1, x => x :: listP k (nxt x)
def expL : List Nat := [1, 2, 4, 8, 16, 32, 64, 128, 29, 58, 116, 232, 205, 135, 19, 38, 76, 152, 45, 90, 180, 117, 234, 201, 143, 3, 6, 12, 24, 48, 96, 192, 157, 39, 78, 156, 37, 74, 148, 53, 106, 212, 181, 119, 238, 193, 159, 35, 70, 140, 5, 10, 20, 40, 80, 160, 93, 186, 105, 210, 185, 111, 222, 161, 95, 190, 97, 194, 153, 47, 94, 188, 101, 202, 137, 15, 30, 60, 120, 240, 253, 231, 211, 187, 107, 214, 177, 127, 254, 225, 223, 163, 91, 182, 113, 226, 217, 175, 67, 134, 17, 34, 68, 136, 13, 26, 52, 104, 208, 189, 103, 206, 129, 31, 62, 124, 248, 237, 199, 147, 59, 118, 236, 197, 151, 51, 102, 204, 133, 23, 46, 92, 184, 109, 218, 169, 79, 158, 33, 66, 132, 21, 42, 84, 168, 77, 154, 41, 82, 164, 85, 170, 73, 146, 57, 114, 228, 213, 183, 115, 230, 209, 191, 99, 198, 145, 63, 126, 252, 229, 215, 179, 123, 246, 241, 255, 227, 219, 171, 75, 150, 49, 98, 196, 149, 55, 110, 220, 165, 87, 174, 65, 130, 25, 50, 100, 200, 141, 7, 14, 28, 56, 112, 224, 221, 167, 83, 166, 81, 162, 89, 178, 121, 242, 249, 239, 195, 155, 43, 86, 172, 69, 138, 9, 18, 36, 72, 144, 61, 122, 244, 245, 247, 243, 251, 235, 203, 139, 11, 22, 44, 88, 176, 125, 250, 233, 207, 131, 27, 54, 108, 216, 173, 71, 142]
def logL : List Nat := [0, 0, 1, 25, 2, 50, 26, 198, 3, 223, 51, 238, 27, 104, 199, 75, 4, 100, 224, 14, 52, 141, 239, 129, 28, 193, 105, 248, 200, 8, 76, 113, 5, 138, 101, 47, 225, 36, 15, 33, 53, 147, 142, 218, 240, 18, 130, 69, 29, 181, 194, 125, 106, 39, 249, 185, 201, 154, 9, 120, 77, 228, 114, 166, 6, 191, 139, 98, 102, 221, 48, 253, 226, 152, 37, 179, 16, 145, 34, 136, 54, 208, 148, 206, 143, 150, 219, 189, 241, 210, 19, 92, 131, 56, 70, 64, 30, 66, 182, 163, 195, 72, 126, 110, 107, 58, 40, 84, 250, 133, 186, 61, 202, 94, 155, 159, 10, 21, 121, 43, 78, 212, 229, 172, 115, 243, 167, 87, 7, 112, 192, 247, 140, 128, 99, 13, 103, 74, 222, 237, 49, 197, 254, 24, 227, 165, 153, 119, 38, 184, 180, 124, 17, 68, 146, 217, 35, 32, 137, 46, 55, 63, 209, 91, 149, 188, 207, 205, 144, 135, 151, 178, 220, 252, 190, 97, 242, 86, 211, 171, 20, 42, 93, 158, 132, 60, 57, 83, 71, 109, 65, 162, 31, 45, 67, 216, 183, 123, 164, 118, 196, 23, 73, 236, 127, 12, 111, 246, 108, 161, 59, 82, 41, 157, 85, 170, 251, 96, 134, 177, 187, 204, 62, 90, 203, 89, 95, 176, 156, 169, 160, 81, 11, 245, 22, 235, 122, 117, 44, 215, 79, 174, 213, 233, 230, 231, 173, 232, 116, 214, 244, 234, 168, 80, 88, 175]
theorem expL_eq : expL = listP 255 1 := by decide +kernel
theorem pw_add (j : Nat) : ∀ x k, (listP k x)[j]? = if j < k then some (Nat.repeat nxt j x) else none := by
  induction j with
  | zero => intro x k; cases k <;> simp [listP, Nat.repeat]
  | succ j ih =>
    intro x k
    cases k with
    | zero => simp [listP]
    | succ k =>
      rw [listP, List.getElem?_cons_succ, ih]
      have : Nat.repeat nxt (j + 1) x = Nat.repeat nxt j (nxt x) := by
        clear ih
        induction j with
        | zero => rfl
        | succ j ih => rw [Nat.repeat, ih, Nat.repeat]
      rw [this]
      by_cases h : j < k
      · rw [if_pos h, if_pos (by omega)]
      · rw [if_neg h, if_neg (by omega)]
theorem pw_repeat (k : Nat) : pw k = Nat.repeat nxt k 1 := by
  induction k with
  | zero => rfl
  | succ k ih => rw [pw, ih, Nat.repeat]
theorem pw_list {k : Nat} (h : k < 255) : pw k = expL.getD k 0 := by
  rw [expL_eq, List.getD_eq_getElem?_getD, pw_add, if_pos h, pw_repeat]; rfl
theorem nxt_lt {x : Nat} (h : x < 256) : nxt x < 256 := by
  have : ∀ x, x < 256 → nxt x < 256 := by decide +kernel
  exact this x h
theorem pw_lt (k : Nat) : pw k < 256 := by
  induction k with
  | zero => decide
  | succ k ih => exact nxt_lt ih
theorem pw_255 : pw 255 = 1 := by decide +kernel
theorem pw_period (k : Nat) : pw (k + 255) = pw k := by
  induction k with
  | zero => exact pw_255
  | succ k ih => rw [show k + 1 + 255 = (k + 255) + 1 by omega, pw, ih, pw]
theorem pw_mod (k : Nat) : pw (k % 255) = pw k := by
  have : ∀ q r, pw (r + 255 * q) = pw r := by
    intro q
    induction q with
    | zero => intro r; rfl
    | succ q ih => intro r; rw [show r + 255 * (q + 1) = (r + 255 * q) + 255 by omega, pw_period, ih]
  conv => rhs; rw [← Nat.mod_add_div k 255]
  exact (this _ _).symm
theorem logL_len : logL.length = 256 := by decide +kernel
/-- The logarithm as the list has it. -/
def lg (v : Nat) : Nat := logL.getD v 0
theorem lg_all : ∀ v, v < 256 → 0 < v → lg v < 255 ∧ expL.getD (lg v) 0 = v := by decide +kernel
theorem lg_pw_all : ∀ k, k < 255 → lg (expL.getD k 0) = k := by decide +kernel
theorem lg_lt (v : Nat) : lg v < 255 := by
  by_cases h : v < 256
  · by_cases h0 : v = 0
    · subst h0; decide
    · exact (lg_all v h (by omega)).1
  · unfold lg
    rw [List.getD_eq_getElem?_getD, List.getElem?_eq_none (by rw [logL_len]; omega)]
    decide
theorem pw_lg {v : Nat} (h : v < 256) (h0 : 0 < v) : pw (lg v) = v := by
  obtain ⟨h1, h2⟩ := lg_all v h h0
  rw [pw_list h1, h2]
theorem lg_pw {k : Nat} (h : k < 255) : lg (pw k) = k := by rw [pw_list h]; exact lg_pw_all k h
theorem pw_pos (k : Nat) : 0 < pw k := by
  rw [← pw_mod]
  have h : k % 255 < 255 := Nat.mod_lt _ (by omega)
  have : ∀ j, j < 255 → 0 < expL.getD j 0 := by decide +kernel
  rw [pw_list h]; exact this _ h
theorem pw_inj {j k : Nat} (hj : j < 255) (hk : k < 255) (h : pw j = pw k) : j = k := by rw [← lg_pw hj, ← lg_pw hk, h]
/-- Behind k rounds the logarithm of what was met is right, of others nothing. -/
theorem lgTo_eq (k : Nat) (hk : k ≤ 255) (v : Nat) (hv : v < 256) : lgTo k v = if 0 < v ∧ lg v < k then lg v else 0 := by
  induction k with
  | zero => simp [lgTo]
  | succ k ih =>
    rw [lgTo]
    by_cases e : v = pw k
    · subst e
      rw [if_pos rfl, lg_pw (by omega), if_pos ⟨pw_pos k, by omega⟩]
    · rw [if_neg e, ih (by omega)]
      by_cases h0 : 0 < v
      · have hne : lg v ≠ k := fun h => e (by rw [← h, pw_lg hv h0])
        by_cases h1 : lg v < k
        · rw [if_pos ⟨h0, h1⟩, if_pos ⟨h0, by omega⟩]
        · rw [if_neg (by omega), if_neg (by omega)]
      · rw [if_neg (by omega), if_neg (by omega)]
theorem lgTo_end (v : Nat) (hv : v < 256) : lgTo 255 v = lg v := by
  rw [lgTo_eq 255 (by omega) v hv]
  by_cases h0 : 0 < v
  · rw [if_pos ⟨h0, lg_lt v⟩]
  · rw [if_neg (by omega)]
    obtain rfl : v = 0 := by omega
    decide
/-- The product of two bytes. -/
def gm (a b : Nat) : Nat := if a = 0 ∨ b = 0 then 0 else pw (lg a + lg b)
/-- The same, by the list. -/
def gmL (a b : Nat) : Nat := if a = 0 then 0 else if b = 0 then 0 else if lg a + lg b < 255 then expL.getD (lg a + lg b) 0 else expL.getD (lg a + lg b - 255) 0
theorem gm_eq (a b : Nat) : gm a b = gmL a b := by
  unfold gm gmL
  have h1 := lg_lt a
  have h2 := lg_lt b
  by_cases ha : a = 0
  · rw [if_pos (.inl ha), if_pos ha]
  · by_cases hb : b = 0
    · rw [if_pos (.inr hb), if_neg ha, if_pos hb]
    · rw [if_neg (by simp [ha, hb]), if_neg ha, if_neg hb]
      by_cases h : lg a + lg b < 255
      · rw [if_pos h, pw_list h]
      · rw [if_neg h, ← pw_list (by omega), ← pw_period (lg a + lg b - 255)]
        congr 1; omega
theorem gm_lt (a b : Nat) : gm a b < 256 := by
  unfold gm; split
  · omega
  · exact pw_lt _

end Go.Proofs.YtmfpmgelhhbfiaaDoor
