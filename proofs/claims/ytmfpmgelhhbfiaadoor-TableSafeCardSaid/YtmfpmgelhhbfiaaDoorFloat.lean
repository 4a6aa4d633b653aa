/- Floats of small whole numbers: exact. -/
import Derived.Laws.FloatArith
import Derived.Laws.ComplexArith
namespace Go.Proofs.YtmfpmgelhhbfiaaDoor.Zf
open Go
open Ieee

theorem cut_zero_drop (neg : Bool) (n : Nat) : Toward.even.cut neg n 0 = n := by
  simp [Toward.cut, Nat.mod_one]

theorem log2_mul_pow (n e : Nat) (h : 0 < n) : (n * 2 ^ e).log2 = n.log2 + e := by
  induction e with
  | zero => simp
  | succ e ih =>
    have h1 : n * 2 ^ (e + 1) = 2 * (n * 2 ^ e) := by rw [Nat.pow_succ]; ac_rfl
    rw [h1, Nat.log2_two_mul (by exact Nat.ne_of_gt (Nat.mul_pos h (Nat.two_pow_pos e))), ih]; omega

theorem cut_pow (way : Toward) (neg : Bool) (n d : Nat) (h : 0 < n) : way.cut neg (n * 2 ^ d) d = n := by
  have hl := log2_mul_pow n d h
  unfold Toward.cut
  rw [hl, Nat.min_eq_left (by omega), Nat.one_shiftLeft]
  have hp : 0 < 2 ^ d := Nat.two_pow_pos d
  simp only [Nat.mul_mod_left, Nat.mul_div_cancel n hp]
  cases way <;> simp <;> omega

theorem read_of (f : Format) (r B M L : Nat) (hsw : f.signWeight = 2048 * B) (hbin : f.binade = B) (hinf : f.infRung = 2047 * B)
    (hr : r = M + (L + 1023) * B) (hM : M < B) (hL : L ≤ 52) : f.read r = .number false (B + M) (f.leastPlace + ((L + 1022 : Nat) : Int)) := by
  have hB : 0 < B := by omega
  have h3 : r / B = L + 1023 := by
    rw [hr, Nat.add_mul_div_right _ _ hB, Nat.div_eq_of_lt hM]; omega
  have h4 : r % B = M := by
    rw [hr, Nat.add_mul_mod_self_right, Nat.mod_eq_of_lt hM]
  have hli : r < 2047 * B := by
    have : (L + 1023) * B ≤ 1075 * B := Nat.mul_le_mul_right _ (by omega)
    rw [hr]; omega
  have hge : ¬ r < B := by
    have : 1 * B ≤ (L + 1023) * B := Nat.mul_le_mul_right _ (by omega)
    rw [hr]; omega
  have h1 : r / (2048 * B) = 0 := Nat.div_eq_of_lt (by omega)
  have h2 : r % (2048 * B) = r := Nat.mod_eq_of_lt (by omega)
  unfold Format.read
  rw [hsw, hbin, hinf, h1, h2]
  dsimp only
  rw [h3, h4, if_neg hge, if_pos hli]
  rfl

/-- What a small positive whole number is as a float: the rung. -/
def rung (n : Nat) : Nat := (n.log2 + 1022) * 2 ^ 52 + n * 2 ^ (52 - n.log2)

theorem log2_le {n : Nat} (h : n < 2 ^ 53) : n.log2 ≤ 52 := by
  by_cases h0 : n = 0
  · subst h0; simp
  · have := (Nat.log2_lt h0).2 h; omega

theorem mant_ge {n : Nat} (h0 : 0 < n) (h : n < 2 ^ 53) : 2 ^ 52 ≤ n * 2 ^ (52 - n.log2) := by
  have h1 := Nat.log2_self_le (n := n) (by omega)
  have h2 := log2_le h
  calc 2 ^ 52 = 2 ^ (n.log2 + (52 - n.log2)) := by congr 1; omega
    _ = 2 ^ n.log2 * 2 ^ (52 - n.log2) := Nat.pow_add ..
    _ ≤ n * 2 ^ (52 - n.log2) := Nat.mul_le_mul_right _ h1

theorem mant_lt {n : Nat} (h : n < 2 ^ 53) : n * 2 ^ (52 - n.log2) < 2 ^ 53 := by
  have h1 := Nat.lt_log2_self (n := n)
  have h2 := log2_le h
  calc n * 2 ^ (52 - n.log2) < 2 ^ (n.log2 + 1) * 2 ^ (52 - n.log2) := Nat.mul_lt_mul_of_pos_right h1 (Nat.two_pow_pos _)
    _ = 2 ^ (n.log2 + 1 + (52 - n.log2)) := (Nat.pow_add ..).symm
    _ = 2 ^ 53 := by congr 1; omega

theorem nearest_small (n e : Nat) (h0 : 0 < n) (h : n < 2 ^ 53) (_he : e ≤ 1074) : double.nearest false (n * 2 ^ e) (-(e : Int)) = rung n := by
  have hl := log2_le h
  have hp : 0 < 2 ^ e := Nat.two_pow_pos _
  have hne : n * 2 ^ e ≠ 0 := Nat.ne_of_gt (Nat.mul_pos h0 hp)
  have hL := log2_mul_pow n e h0
  have hlp : double.leastPlace = -1074 := by decide
  have hfb : double.fractionBits = 52 := rfl
  have hbin : double.binade = 2 ^ 52 := rfl
  have hinf : double.infRung = 2047 * 2 ^ 52 := by decide
  have hm : max (-(e : Int) + ((n * 2 ^ e).log2 : Nat) - (52 : Nat)) (-1074) = (n.log2 : Int) - 52 := by rw [hL]; omega
  unfold Format.nearest
  rw [if_neg hne]
  simp only [hlp, hfb, hbin, hinf, hm]
  have hk : Toward.even.cut false ((n * 2 ^ e) <<< (-(e : Int) - ((n.log2 : Int) - 52)).toNat) (((n.log2 : Int) - 52) - (-(e : Int))).toNat = n * 2 ^ (52 - n.log2) := by
    by_cases hc : e ≤ 52 - n.log2
    · have h1 : (-(e : Int) - ((n.log2 : Int) - 52)).toNat = 52 - n.log2 - e := by omega
      have h2 : (((n.log2 : Int) - 52) - (-(e : Int))).toNat = 0 := by omega
      rw [h1, h2, cut_zero_drop, Nat.shiftLeft_eq, Nat.mul_assoc, ← Nat.pow_add]
      congr 2; omega
    · have h1 : (-(e : Int) - ((n.log2 : Int) - 52)).toNat = 0 := by omega
      have h2 : (((n.log2 : Int) - 52) - (-(e : Int))).toNat = e - (52 - n.log2) := by omega
      rw [h1, h2, Nat.shiftLeft_zero]
      have h3 : n * 2 ^ e = (n * 2 ^ (52 - n.log2)) * 2 ^ (e - (52 - n.log2)) := by
        rw [Nat.mul_assoc, ← Nat.pow_add]; congr 2; omega
      rw [h3, cut_pow _ _ _ _ (Nat.lt_of_lt_of_le (by decide) (mant_ge h0 h))]
  rw [hk]
  have h4 : ((n.log2 : Int) - 52 - -1074).toNat = n.log2 + 1022 := by omega
  rw [h4]
  have := mant_lt h
  unfold Format.word rung
  have h5 : (n.log2 + 1022) * 2 ^ 52 + n * 2 ^ (52 - n.log2) ≤ 2047 * 2 ^ 52 := by
    have : (2:Nat) ^ 53 = 2 * 2 ^ 52 := by decide
    omega
  rw [Nat.min_eq_left h5]; rfl

theorem read_rung {n : Nat} (h0 : 0 < n) (h : n < 2 ^ 53) : double.read (rung n) = .number false (n * 2 ^ (52 - n.log2)) ((n.log2 : Int) - 52) := by
  have hl := log2_le h
  have hg := mant_ge h0 h
  have hlt := mant_lt h
  have hlp : double.leastPlace = -1074 := by decide
  have e53 : (2:Nat) ^ 53 = 2 * 2 ^ 52 := by decide
  rw [e53] at hlt
  have hr : rung n = (n * 2 ^ (52 - n.log2) - 2 ^ 52) + (n.log2 + 1023) * 2 ^ 52 := by unfold rung; omega
  rw [read_of double (rung n) (2 ^ 52) (n * 2 ^ (52 - n.log2) - 2 ^ 52) n.log2 rfl rfl (by decide) hr (by omega) hl, hlp]
  have a1 : 2 ^ 52 + (n * 2 ^ (52 - n.log2) - 2 ^ 52) = n * 2 ^ (52 - n.log2) := by omega
  have a2 : (-1074 : Int) + ((n.log2 + 1022 : Nat) : Int) = (n.log2 : Int) - 52 := by omega
  rw [a1, a2]

/-- A whole number as a float's bits. -/
def fl (n : Nat) : Nat := if n = 0 then 0 else rung n

theorem floatOfInt_fl {n : Nat} (h : n < 2 ^ 53) : floatOfInt .f64 (n : Int) = fl n := by
  unfold floatOfInt
  by_cases h0 : n = 0
  · subst h0; decide
  · have := nearest_small n 0 (by omega) h (by omega)
    have hn : decide ((n : Int) < 0) = false := by simp
    show double.write (.number (decide ((n : Int) < 0)) (n : Int).natAbs 0) = _
    rw [hn]
    simp only [Nat.pow_zero, Nat.mul_one] at this
    show double.nearest false (n : Int).natAbs 0 = _
    rw [fl, if_neg h0, Int.natAbs_natCast]; exact this

theorem fl_toInt {n : Nat} (h : n < 2 ^ 53) : floatToIntVal .f64 (fl n) .i64 = some (n : Int) := by
  by_cases h0 : n = 0
  · subst h0; decide
  · have hr := read_rung (by omega) h
    have hl := log2_le h
    have hi : ((double.read (fl n)).toInt .zero) = some (n : Int) := by
      rw [fl, if_neg h0, hr]
      have e1 : ((n.log2 : Int) - 52).toNat = 0 := by omega
      have e2 : (-((n.log2 : Int) - 52)).toNat = 52 - n.log2 := by omega
      simp only [Datum.toInt, Datum.integral, e1, e2, Nat.shiftLeft_zero, cut_pow _ _ _ _ (Nat.pos_of_ne_zero h0)]
      simp [signed]
    have hi' : ((FloatKind.decode .f64 (fl n)).toInt .zero) = some (n : Int) := hi
    unfold floatToIntVal
    rw [hi']
    show (if IntKind.min .i64 ≤ (n : Int) ∧ (n : Int) ≤ IntKind.max .i64 then some (n : Int) else none) = _
    have a1 : IntKind.min .i64 ≤ (n : Int) := by have : IntKind.min .i64 = -9223372036854775808 := by decide
                                                 omega
    have a2 : (n : Int) ≤ IntKind.max .i64 := by have : IntKind.max .i64 = 9223372036854775807 := by decide
                                                 omega
    rw [if_pos ⟨a1, a2⟩]

theorem sum_number (m t : Nat) (i j : Int) : Datum.sum (.number false m i) (.number false t j) =
    some (.number false (m * 2 ^ (i - min i j).toNat + t * 2 ^ (j - min i j).toNat) (min i j)) := by
  have key : ∀ x y : Nat, (if ((x : Int) + (y : Int) = 0) then (false && false) else decide ((x : Int) + (y : Int) < 0)) = false ∧ ((x : Int) + (y : Int)).natAbs = x + y := by
    intro x y
    constructor
    · split
      · rfl
      · simp; omega
    · omega
  simp only [Datum.sum, signed, Nat.shiftLeft_eq, Bool.false_eq_true, if_false]
  obtain ⟨k1, k2⟩ := key (m * 2 ^ (i - min i j).toNat) (t * 2 ^ (j - min i j).toNat)
  rw [k1, k2]

theorem read_zero : double.read (fl 0) = .number false (0 * 2 ^ 1074) (-((1074 : Nat) : Int)) := by decide +kernel

theorem fl_add {a b : Nat} (h : a + b < 2 ^ 53) : floatBits .add .f64 (fl a) (fl b) = some (fl (a + b)) := by
  have hf : floatBits .add .f64 (fl a) (fl b) = ((double.read (fl a)).sum (double.read (fl b))).map double.write := rfl
  rw [hf]
  have key : ∀ (k e : Nat), k < 2 ^ 53 → e ≤ 1074 → double.write (.number false (k * 2 ^ e) (-(e : Int))) = fl k := by
    intro k e hk he
    by_cases hk0 : k = 0
    · subst hk0
      show double.nearest false (0 * 2 ^ e) (-(e : Int)) = 0
      unfold Format.nearest
      rw [if_pos (by simp)]; rfl
    · rw [fl, if_neg hk0]; exact nearest_small k e (by omega) hk he
  have rd : ∀ n, n < 2 ^ 53 → ∃ e : Nat, e ≤ 1074 ∧ double.read (fl n) = .number false (n * 2 ^ e) (-(e : Int)) := by
    intro n hn
    by_cases h0 : n = 0
    · subst h0; exact ⟨1074, Nat.le_refl _, read_zero⟩
    · refine ⟨52 - n.log2, by omega, ?_⟩
      rw [fl, if_neg h0, read_rung (by omega) hn]
      have := log2_le hn
      congr 1; omega
  obtain ⟨e, he, hea⟩ := rd a (by omega)
  obtain ⟨d, hd, heb⟩ := rd b (by omega)
  rw [hea, heb, sum_number, Option.map_some]
  congr 1
  have hmin : min (-(e : Int)) (-(d : Int)) = -((max e d : Nat) : Int) := by omega
  rw [hmin]
  have h1 : (-(e : Int) - -((max e d : Nat) : Int)).toNat = max e d - e := by omega
  have h2 : (-(d : Int) - -((max e d : Nat) : Int)).toNat = max e d - d := by omega
  rw [h1, h2, Nat.mul_assoc, Nat.mul_assoc, ← Nat.pow_add, ← Nat.pow_add]
  have h3 : e + (max e d - e) = max e d := by omega
  have h4 : d + (max e d - d) = max e d := by omega
  rw [h3, h4, ← Nat.add_mul]
  exact key (a + b) (max e d) h (by omega)

end Go.Proofs.YtmfpmgelhhbfiaaDoor.Zf
