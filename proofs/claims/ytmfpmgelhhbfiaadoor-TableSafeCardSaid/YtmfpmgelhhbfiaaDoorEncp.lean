/- Package rs: 64 bytes of parity, reckoned. -/
import Derived.Test.YtmfpmgelhhbfiaaDoorGens
namespace Go.Proofs.YtmfpmgelhhbfiaaDoor
open Go.RowKit

/-- The generator's coefficients, the highest one behind the first. -/
def tapN (j : Nat) : Nat := sb genS (63 - j)
def shl0 (r : Nat → Nat) (j : Nat) : Nat := if j < 63 then r (j + 1) else 0
/-- A round's register, of which so many have been turned. -/
def encT (x : Nat) (r : Nat → Nat) (m j : Nat) : Nat := if j < m then shl0 r j ^^^ gm x (tapN j) else shl0 r j
def encStep (x : Nat) (r : Nat → Nat) : Nat → Nat := encT x r 64
/-- The register behind so many bytes. -/
def encR (s : Nat → Nat) : Nat → Nat → Nat
  | 0 => fun _ => 0
  | k + 1 => encStep (s k ^^^ encR s k 0) (encR s k)
theorem shl0_lt {r : Nat → Nat} (h : ∀ j, r j < 256) (j : Nat) : shl0 r j < 256 := by
  unfold shl0; split
  · exact h _
  · decide
theorem encT_lt {x : Nat} {r : Nat → Nat} (h : ∀ j, r j < 256) (m j : Nat) : encT x r m j < 256 := by
  unfold encT; split
  · exact Nat.xor_lt_two_pow (n := 8) (shl0_lt h j) (gm_lt _ _)
  · exact shl0_lt h j
theorem encR_lt (s : Nat → Nat) (k : Nat) : ∀ j, encR s k j < 256 := by
  induction k with
  | zero => intro j; exact (by decide : 0 < 256)
  | succ k ih => intro j; exact encT_lt ih _ _
theorem encT_zero (x : Nat) (r : Nat → Nat) (j : Nat) : encT x r 0 j = shl0 r j := by unfold encT; rw [if_neg (by omega)]
theorem encT_step (x : Nat) (r : Nat → Nat) (m j : Nat) : encT x r (m + 1) j = if j = m then encT x r m m ^^^ gm x (tapN m) else encT x r m j := by
  unfold encT
  by_cases e : j = m
  · subst e; rw [if_pos (by omega), if_pos rfl, if_neg (by omega)]
  · rw [if_neg e]
    by_cases g : j < m
    · rw [if_pos g, if_pos (by omega)]
    · rw [if_neg g, if_neg (by omega)]
theorem gm_zl (b : Nat) : gm 0 b = 0 := by unfold gm; rw [if_pos (.inl rfl)]
theorem encStep_zero (r : Nat → Nat) (j : Nat) : encStep 0 r j = shl0 r j := by
  unfold encStep encT
  rw [gm_zl, Nat.xor_zero]; split <;> rfl
theorem encR_congr {s t : Nat → Nat} (k : Nat) (h : ∀ i, i < k → s i = t i) : encR s k = encR t k := by
  induction k with
  | zero => rfl
  | succ k ih => rw [encR, encR, ih (fun i hi => h i (by omega)), h k (by omega)]

/-- 64 bytes of parity. -/
def encS (s : ByteArray) : ByteArray := ⟨((List.range 64).map fun j => (encR (sb s) 191 j).toUInt8).toArray⟩
theorem encS_size (s : ByteArray) : (encS s).size = 64 := by show (((List.range 64).map fun j => (encR (sb s) 191 j).toUInt8).toArray).size = 64; simp

/-- n bytes in a block, each known. -/
def ArrAt (t : TypeId) (n : Nat) (w : World) (b : Nat) (f : Nat → Nat) : Prop := ∃ cur, RowAt w b t cur ∧ cur.size = n ∧ ∀ j, j < n → cur[j]? = some (.int .u8 (f j : Nat))
section
variable {t : TypeId} {n : Nat} {w w' : World} {b : Nat} {f g : Nat → Nat}
theorem ArrAt.frm {S : Nat → Prop} (h : ArrAt t n w b f) (F : Frm S w w') (hs : ¬ S b) : ArrAt t n w' b f := let ⟨cur, h1, h2⟩ := h; ⟨cur, h1.frm F hs, h2⟩
theorem ArrAt.lt (h : ArrAt t n w b f) : b < w.heap.size := let ⟨_, h1, _⟩ := h; h1.lt
theorem ArrAt.congr (h : ArrAt t n w b f) (e : ∀ j, j < n → g j = f j) : ArrAt t n w b g := by
  obtain ⟨cur, h1, h2, h3⟩ := h
  exact ⟨cur, h1, h2, fun j hj => by rw [e j hj]; exact h3 j hj⟩
theorem ArrAt.cell (h : ArrAt t n w b f) {j : Nat} (hj : j < n) : w.cell? ⟨b, j, none⟩ = some (.int .u8 (f j : Nat)) := by
  obtain ⟨cur, h1, _, h2⟩ := h
  rw [h1.cell]; exact h2 j hj
theorem ArrAt.frozen (h : ArrAt t n w b f) (j : Nat) : w.frozen? ⟨b, j, none⟩ = false := by
  obtain ⟨cur, h1, _, h2⟩ := h
  exact h1.frozen _
theorem ArrAt.set (h : ArrAt t n w b f) (k x : Nat) (e : ∀ j, g j = if j = k then x else f j) : ArrAt t n (w.setCell ⟨b, k, none⟩ (.int .u8 (x : Nat))) b g := by
  obtain ⟨cur, h1, h2, h3⟩ := h
  refine ⟨_, h1.setCell _ _, by simp [h2], fun j hj => ?_⟩
  rw [e]
  by_cases ee : j = k
  · subst ee
    rw [if_pos rfl, Array.getElem?_setIfInBounds_self]
    simp [h2, hj]
  · rw [if_neg ee, Array.getElem?_setIfInBounds_ne (by omega)]; exact h3 j hj
theorem ArrAt.setOther (h : ArrAt t n w b f) {p : Addr} (hp : b ≠ p.block) (v : Value) : ArrAt t n (w.setCell p v) b f := let ⟨cur, h1, h2⟩ := h; ⟨cur, h1.setOther hp v, h2⟩
theorem ArrAt.drewN (h : ArrAt t n w b f) (q : Nat) : ArrAt t n (w.drewN q) b f := h
theorem ArrAt.new (w : World) (t : TypeId) (n : Nat) : ArrAt t n (w.alloc (.cells (Array.replicate n (.int .u8 0)) t)) w.heap.size (fun _ => 0) :=
  ⟨_, RowAt.new w _ _, by simp, fun j hj => by simp [hj]⟩
end
/-- The bytes of an array, as a string. -/
def bytesL (n : Nat) (f : Nat → Nat) : List UInt8 := (List.range n).map fun j => (f j).toUInt8
theorem bytesL_len (n : Nat) (f : Nat → Nat) : (bytesL n f).length = n := by simp [bytesL]
theorem bytesL_get {n j : Nat} (f : Nat → Nat) (h : j < n) : (bytesL n f)[j]? = some (f j).toUInt8 := by simp [bytesL, h]
theorem sb_bytesL {n j : Nat} {f : Nat → Nat} (h : j < n) (hf : f j < 256) : sb ⟨(bytesL n f).toArray⟩ j = f j := by
  unfold sb
  rw [List.getD_eq_getElem?_getD]
  show ((bytesL n f)[j]?.getD 0).toNat = _
  rw [bytesL_get f h]
  simp; omega
theorem bytesL_size (n : Nat) (f : Nat → Nat) : (⟨(bytesL n f).toArray⟩ : ByteArray).size = n := by show (bytesL n f).toArray.size = n; simp [bytesL]
/-- 'string(x[o:o+n])' of bytes that lie in a block. -/
theorem part_text {w : World} {b o n c : Nat} {f : Nat → Nat} (hc : ∀ j, j < n → w.cell? ⟨b, o + j, none⟩ = some (.int .u8 (f j : Nat))) (hf : ∀ j, j < n → f j < 256) :
    (convert 89 9 (.slice (some ⟨b, o, none⟩) n c)).run Tryd.prog w = .ok (.string ⟨(bytesL n f).toArray⟩) w := by
  have hl := bytesL_len n f
  have hr : (convert 89 9 (.slice (some ⟨b, o, none⟩) (bytesL n f).length c)).run Tryd.prog w = .ok (.string ⟨(bytesL n f).toArray⟩) w := by
    refine run_convert_bytes_back w _ _ _ ⟨b, o, none⟩ c (bytesL n f) Tryd.underlying89 Tryd.underlying5 Tryd.underlying9 ?_
    intro j hj
    rw [show (⟨b, o, none⟩ : Addr).add j = ⟨b, o + j, none⟩ by unfold Addr.add; split <;> simp_all]
    rw [hl] at hj
    rw [hc j hj]
    have h1 : (bytesL n f)[j]'(by rw [hl]; exact hj) = (f j).toUInt8 := by simp [bytesL]
    rw [h1]
    have := hf j hj
    simp; omega
  rw [hl] at hr; exact hr
theorem encS_eq (s : ByteArray) : encS s = ⟨(bytesL 64 (encR (sb s) 191)).toArray⟩ := rfl
end Go.Proofs.YtmfpmgelhhbfiaaDoor
