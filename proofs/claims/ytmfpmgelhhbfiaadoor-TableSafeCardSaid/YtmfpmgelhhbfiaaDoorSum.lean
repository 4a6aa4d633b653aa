/- Datagrams: Sum. -/
import Derived.Test.YtmfpmgelhhbfiaaDoorPeek
import Derived.Test.YtmfpmgelhhbfiaaDoorShelf
import Derived.Test.YtmfpmgelhhbfiaaDoorScope
namespace Go.Proofs.YtmfpmgelhhbfiaaDoor
open Go.RowKit

/-- The sum of the bytes at even places below k, and of those at odd ones. -/
def hiTo (s : ByteArray) : Nat → Nat
  | 0 => 0
  | k + 1 => hiTo s k + if k % 2 = 0 then sb s k else 0
def loTo (s : ByteArray) : Nat → Nat
  | 0 => 0
  | k + 1 => loTo s k + if k % 2 = 0 then 0 else sb s k
theorem hiTo_le (s : ByteArray) (k : Nat) : hiTo s k ≤ 255 * k := by
  induction k with
  | zero => simp [hiTo]
  | succ k ih => have := sb_lt s k; simp only [hiTo]; split <;> omega
theorem loTo_le (s : ByteArray) (k : Nat) : loTo s k ≤ 255 * k := by
  induction k with
  | zero => simp [loTo]
  | succ k ih => have := sb_lt s k; simp only [loTo]; split <;> omega
/-- A sum whose carries were added again. -/
def fold16 (n : Nat) : Nat := if n = 0 then 0 else (n - 1) % 65535 + 1
theorem fold16_step {n : Nat} (h : 65535 < n) : fold16 (n / 65536 + n % 65536) = fold16 n := by
  unfold fold16
  rw [if_neg (by omega), if_neg (by omega)]
  omega
theorem fold16_small {n : Nat} (h : n ≤ 65535) : fold16 n = n := by
  unfold fold16
  split <;> omega
theorem fold16_le (n : Nat) : fold16 n ≤ 65535 := by
  unfold fold16
  split <;> omega
def sumOf (s : ByteArray) : Nat := 65535 - fold16 (256 * hiTo s s.size + loTo s s.size)

def FrSum (v0 : Value) (t : ByteArray) (i : Nat) (a : Act) : Prop := ∃ (u6 u7 u8 u9 u10 u11 u12 u13 u14 u15 u16 u17 u18 u19 u20 u21 u22 u23 u24 u25 u26 u27 u28 u29 u30 u31 u32 u33 u34 u35 u36 u37 u38 u39 u40 u41 u42 u43 u44 u45 u46 u47 : Value), a = { tmps := #[v0, undef, .int .i64 0, .string t, .complex .f64 (Zf.fl (hiTo t i)) (Zf.fl (loTo t i)), .int .i64 i, u6, u7, u8, u9, u10, u11, u12, u13, u14, u15, u16, u17, u18, u19, u20, u21, u22, u23, u24, u25, u26, u27, u28, u29, u30, u31, u32, u33, u34, u35, u36, u37, u38, u39, u40, u41, u42, u43, u44, u45, u46, u47], defers := [] }
def FrFold (v0 : Value) (n : Nat) (a : Act) : Prop := ∃ (u3 u4 u5 u6 u8 u9 u10 u11 u12 u13 u14 u15 u16 u17 u18 u19 u20 u21 u22 u23 u24 u25 u26 u27 u28 u29 u30 u31 u32 u33 u34 u35 u36 u37 u38 u39 u40 u41 u42 u43 u44 u45 u46 u47 : Value), a = { tmps := #[v0, undef, .int .i64 0, u3, u4, u5, u6, .int .i64 n, u8, u9, u10, u11, u12, u13, u14, u15, u16, u17, u18, u19, u20, u21, u22, u23, u24, u25, u26, u27, u28, u29, u30, u31, u32, u33, u34, u35, u36, u37, u38, u39, u40, u41, u42, u43, u44, u45, u46, u47], defers := [] }

theorem add_hi (W : World) (t : TypeId) (x y b : Nat) (h : x + b < 2 ^ 53) (hy : y < 2 ^ 53) : (binOp .add t (.complex .f64 (Zf.fl x) (Zf.fl y)) (.complex .f64 (Zf.fl b) 0)).run Tryd.prog W = .ok (.complex .f64 (Zf.fl (x + b)) (Zf.fl y)) W := by
  refine run_complex_sum W .add (.inl rfl) t .f64 _ _ _ _ _ _ ?_
  unfold cSumBits
  rw [Zf.fl_add h]
  have := Zf.fl_add (a := y) (b := 0) (by omega)
  rw [show (0 : Nat) = Zf.fl 0 from rfl, this]; rfl
theorem add_lo (W : World) (t : TypeId) (x y b : Nat) (h : x < 2 ^ 53) (hy : y + b < 2 ^ 53) : (binOp .add t (.complex .f64 (Zf.fl x) (Zf.fl y)) (.complex .f64 0 (Zf.fl b))).run Tryd.prog W = .ok (.complex .f64 (Zf.fl x) (Zf.fl (y + b))) W := by
  refine run_complex_sum W .add (.inl rfl) t .f64 _ _ _ _ _ _ ?_
  unfold cSumBits
  have := Zf.fl_add (a := x) (b := 0) (by omega)
  rw [show (0 : Nat) = Zf.fl 0 from rfl, this, Zf.fl_add hy]; rfl
theorem int_of (W : World) (n : Nat) (h : n < 2 ^ 53) : (convert 97 3 (.float .f64 (Zf.fl n))).run Tryd.prog W = .ok (.int .i64 n) W :=
  run_convert_float_int W _ _ .f64 .i64 _ _ (by kernel_rfl) Tryd.underlying3 (Zf.fl_toInt h)

set_option maxRecDepth 100000 in
set_option maxHeartbeats 1000000 in
theorem sum_calls (w : World) (b c : Nat) (xs : List ByteArray) (t : ByteArray) (ht : t.data.toList = Lib.join (xs.map (·.data.toList)) []) (hlen : t.size ≤ 1000000) (hc : xs.length ≤ c) (hb : b < w.heap.size)
    (hcells : ∀ (j : Nat) x, xs[j]? = some x → w.cell? ⟨b, 0 + j, none⟩ = some (.string x)) (hN : xs.length ≤ 1000) :
    Calls Tryd.prog 53 #[.slice (some ⟨b, 0, none⟩) xs.length c] w fun e w' => e = .returned (.int .i64 (sumOf t)) ∧ Below w.heap.size w w' := by
  have HJ := Lib.hid (Tryd.strings_Join b 0 c xs ⟨#[]⟩ w hcells hb (by omega) hc (by
    have : (Lib.join (xs.map (·.data.toList)) []).length = t.size := by rw [← ht]; simp
    show (Lib.join (xs.map (·.data.toList)) []).length ≤ _
    omega))
  have hT : (⟨(Lib.join (xs.map (·.data.toList)) []).toArray⟩ : ByteArray) = t := by
    apply ByteArray.ext; rw [← ht]
  have HT := Lib.hid hT
  clear hcells ht hT
  go_enter Tryd.func53, Tryd.ntmps53
  go_wp2_with fail
  refine wp_scope_two 0 1 rfl rfl (fun a' w' => ∃ i, i ≤ t.size ∧ FrSum (.slice (some ⟨b, 0, none⟩) xs.length c) t i a' ∧ Below w.heap.size w w') (fun a' w' => ∃ n, n ≤ 1000000000000 ∧ fold16 n = fold16 (256 * hiTo t t.size + loTo t t.size) ∧ FrFold (.slice (some ⟨b, 0, none⟩) xs.length c) n a' ∧ Below w.heap.size w w') (fun a' _ => t.size - (intOf (a'.tmps.getD 5 undef)).toNat) (fun a' _ => (intOf (a'.tmps.getD 7 undef)).toNat) ?_ ?_ ?_
  · rintro a' w' ⟨n, hn, hf, ⟨u3, u4, u5, u6, u8, u9, u10, u11, u12, u13, u14, u15, u16, u17, u18, u19, u20, u21, u22, u23, u24, u25, u26, u27, u28, u29, u30, u31, u32, u33, u34, u35, u36, u37, u38, u39, u40, u41, u42, u43, u44, u45, u46, u47, rfl⟩, hB⟩
    have e1 : bits BinOp.and IntKind.i64 (n : Int) 65535 = ((n % 65536 : Nat) : Int) := by
      rw [show (65535 : Int) = ((65535 : Nat) : Int) from rfl, i64_and_nat n 65535 (by omega) (by omega)]
      rw [show n &&& 65535 = n % 65536 from Nat.and_two_pow_sub_one_eq_mod n 16]
    have e2 : wrap64 ((n : Int) / 65536 + ((n % 65536 : Nat) : Int)) = ((n / 65536 + n % 65536 : Nat) : Int) := by unfold wrap64; omega
    have HB := Lib.hid hB
    have E1 := Lib.hid e1
    have E2 := Lib.hid e2
    clear hB e1 e2
    by_cases hgt : 65535 < n
    · go_wp2_with fail
      go_step3
      rw [E1.out, E2.out]
      refine ⟨rfl, ⟨n / 65536 + n % 65536, by omega, (fold16_step hgt).trans hf, ⟨_, _, _, _, _, _, _, _, _, _, _, _, _, _, _, _, _, _, _, _, _, _, _, _, _, _, _, _, _, _, _, _, _, _, _, _, _, _, _, _, _, _, _, _, rfl⟩, HB.out⟩, ?_⟩
      simp [intOf]; omega
    · have hr : sumOf t = 65535 - n := by unfold sumOf; rw [← hf, fold16_small (by omega)]
      have HR := Lib.hid hr
      have hle : n ≤ 65535 := by omega
      clear hr
      go_wp2_with fail
      refine jumps_ret ?_
      go_ret
      refine ⟨?_, HB.out⟩
      rw [HR.out]
      show Ending.returned (.int .i64 (65535 - (n : Int))) = _
      rw [show ((65535 - n : Nat) : Int) = 65535 - (n : Int) by omega]
  · rintro a' w' ⟨i, hi, ⟨u6, u7, u8, u9, u10, u11, u12, u13, u14, u15, u16, u17, u18, u19, u20, u21, u22, u23, u24, u25, u26, u27, u28, u29, u30, u31, u32, u33, u34, u35, u36, u37, u38, u39, u40, u41, u42, u43, u44, u45, u46, u47, rfl⟩, hB⟩ hK
    have HB := Lib.hid hB
    have HK := Lib.hid hK
    have h1 := hiTo_le t i
    have h2 := loTo_le t i
    clear hB hK
    by_cases hlt : i < t.size
    · have hb8 := sb_lt t i
      have f1 : floatOfInt .f64 ((t[i]'hlt).toNat : Int) = Zf.fl (sb t i) := by rw [sb_eq hlt, Zf.floatOfInt_fl (by omega)]
      by_cases hev : i % 2 = 0
      · have t1 : ((i : Int) % 2 == 0) = true := by rw [beq_iff_eq]; omega
        have a1 := fun W => add_hi W 94 (hiTo t i) (loTo t i) (sb t i) (by omega) (by omega)
        have g1 : hiTo t (i + 1) = hiTo t i + sb t i := by simp [hiTo, hev]
        have g2 : loTo t (i + 1) = loTo t i := by simp [loTo, hev]
        have G1 := Lib.hid g1
        have G2 := Lib.hid g2
        clear h1 h2 hev g1 g2
        go_wp2_with fail
        go_step3
        refine .inl ⟨rfl, ⟨i + 1, by omega, ?_, HB.out⟩, ?_⟩
        · unfold FrSum
          rw [G1.out, G2.out]
          exact ⟨_, _, _, _, _, _, _, _, _, _, _, _, _, _, _, _, _, _, _, _, _, _, _, _, _, _, _, _, _, _, _, _, _, _, _, _, _, _, _, _, _, _, rfl⟩
        · simp [intOf]; omega
      · have t1 : ((i : Int) % 2 == 0) = false := by rw [beq_eq_false_iff_ne]; omega
        have a1 := fun W => add_lo W 94 (hiTo t i) (loTo t i) (sb t i) (by omega) (by omega)
        have g1 : hiTo t (i + 1) = hiTo t i := by simp [hiTo, hev]
        have g2 : loTo t (i + 1) = loTo t i + sb t i := by simp [loTo, hev]
        have G1 := Lib.hid g1
        have G2 := Lib.hid g2
        clear h1 h2 hev g1 g2
        go_wp2_with fail
        go_step3
        refine .inl ⟨rfl, ⟨i + 1, by omega, ?_, HB.out⟩, ?_⟩
        · unfold FrSum
          rw [G1.out, G2.out]
          exact ⟨_, _, _, _, _, _, _, _, _, _, _, _, _, _, _, _, _, _, _, _, _, _, _, _, _, _, _, _, _, _, _, _, _, _, _, _, _, _, _, _, _, _, rfl⟩
        · simp [intOf]; omega
    · obtain rfl : i = t.size := by omega
      have c1 := fun W => int_of W (hiTo t t.size) (by omega)
      have c2 := fun W => int_of W (loTo t t.size) (by omega)
      have hs1 : hiTo t t.size ≤ 255000000 := by omega
      have hs2 : loTo t t.size ≤ 255000000 := by omega
      clear h1 h2
      go_wp2_with fail
      go_step3
      go_step
      go_step
      refine wp_jump1_2 (HK.out _ _ ⟨256 * hiTo t t.size + loTo t t.size, by omega, rfl, ?_, HB.out⟩)
      rw [show ((hiTo t t.size : Int) * 256 + (loTo t t.size : Int)) = ((256 * hiTo t t.size + loTo t t.size : Nat) : Int) by omega]
      exact ⟨_, _, _, _, _, _, _, _, _, _, _, _, _, _, _, _, _, _, _, _, _, _, _, _, _, _, _, _, _, _, _, _, _, _, _, _, _, _, _, _, _, _, _, _, rfl⟩
  · intro hJ
    have HJ2 := Lib.hid hJ
    clear hJ
    go_wp2_with fail
    refine HJ.out.mono ?_
    rintro e w1 ⟨rfl, hB⟩
    rw [HT.out]
    have HB := Lib.hid hB
    clear hB
    go_wp2_with fail
    go_step3
    go_step
    go_step
    refine HJ2.out _ _ ⟨0, Nat.zero_le _, ?_, HB.out⟩
    exact ⟨_, _, _, _, _, _, _, _, _, _, _, _, _, _, _, _, _, _, _, _, _, _, _, _, _, _, _, _, _, _, _, _, _, _, _, _, _, _, _, _, _, _, rfl⟩

end Go.Proofs.YtmfpmgelhhbfiaaDoor
