/- Datagrams: Peek. -/
import Derived.Test.YtmfpmgelhhbfiaaDoorPeek6
namespace Go.Proofs.YtmfpmgelhhbfiaaDoor
open Go.RowKit

/-- What a datagram's beginning tells: version, header, length, protocol. -/
structure Hd where
  ver : Nat
  hdr : Nat
  len : Nat
  proto : Nat
  deriving DecidableEq
def hd0 : Hd := ⟨0, 0, 0, 0⟩

theorem toList_isEmpty {s : ByteArray} (h : 0 < s.size) : s.toList.isEmpty = false := by
  cases hb : s.toList.isEmpty with
  | false => rfl
  | true =>
    have h1 : s.toList = [] := List.isEmpty_iff.1 hb
    rw [ByteArray.toList_eq] at h1
    have h2 : s.data.toList.length = 0 := by rw [h1]; rfl
    rw [Array.length_toList] at h2
    exact absurd h2 (Nat.ne_of_gt h)

/-- What Peek tells, and its error. -/
def peekOf (s : ByteArray) : Hd × Nat :=
  if s.size = 0 then (hd0, 10)
  else if sb s 0 / 16 = 4 then
    if s.size < 20 then (hd0, 10)
    else if 4 * (sb s 0 % 16) < 20 ∨ pairAt s 2 < 4 * (sb s 0 % 16) then (hd0, 12)
    else if 4080 < pairAt s 2 then (hd0, 15)
    else (⟨4, 4 * (sb s 0 % 16), pairAt s 2, sb s 9⟩, 0)
  else if sb s 0 / 16 = 6 then
    if s.size < 40 then (hd0, 10)
    else if 4080 < 40 + pairAt s 4 then (hd0, 15)
    else (⟨6, 40, 40 + pairAt s 4, sb s 6⟩, 0)
  else (hd0, 14)

def Hd.val (h : Hd) : Value := .agg #[.int .i64 h.ver, .int .i64 h.hdr, .int .i64 h.len, .int .i64 h.proto]
def peekV (p : Hd × Nat) : Value := .tuple #[p.1.val, .int .i64 p.2]

def zeroHead : Obj := .cells #[.int .i64 0, .int .i64 0, .int .i64 0, .int .i64 0] 100

theorem head_kept {w w1 : World} (hB : Below (w.alloc zeroHead).heap.size (w.alloc zeroHead) w1) : w.heap.size < w1.heap.size ∧
    w1.cell? ⟨w.heap.size, 0, none⟩ = some (.int .i64 0) ∧ w1.cell? ⟨w.heap.size, 1, none⟩ = some (.int .i64 0) ∧ w1.cell? ⟨w.heap.size, 2, none⟩ = some (.int .i64 0) ∧ w1.cell? ⟨w.heap.size, 3, none⟩ = some (.int .i64 0) ∧
    w1.frozen? ⟨w.heap.size, 0, none⟩ = false ∧ w1.frozen? ⟨w.heap.size, 1, none⟩ = false ∧ w1.frozen? ⟨w.heap.size, 2, none⟩ = false ∧ w1.frozen? ⟨w.heap.size, 3, none⟩ = false := by
  have hz := hB.size
  have hr : RowAt w1 w.heap.size 100 #[.int .i64 0, .int .i64 0, .int .i64 0, .int .i64 0] :=
    (RowAt.new w _ _).frm (Frm.of_below hB) (by simp [zeroHead])
  simp [zeroHead] at hz
  refine ⟨by omega, ?_, ?_, ?_, ?_, ?_, ?_, ?_, ?_⟩
  · rw [hr.cell]; rfl
  · rw [hr.cell]; rfl
  · rw [hr.cell]; rfl
  · rw [hr.cell]; rfl
  · exact hr.frozen 0
  · exact hr.frozen 1
  · exact hr.frozen 2
  · exact hr.frozen 3

theorem base_below {w w1 : World} {o : Obj} (hB : Below (w.alloc o).heap.size (w.alloc o) w1) : Below w.heap.size w w1 :=
  ((Below.refl _ _).alloc (Nat.le_refl _) _).trans (hB.mono (by simp))

set_option maxRecDepth 100000 in
set_option maxHeartbeats 4000000 in
theorem peek_calls (w : World) (s : ByteArray) (hs : s.size ≤ 9223372036854775807) :
    Calls Tryd.prog 43 #[.string s] w fun e w' => e = .returned (peekV (peekOf s)) ∧ Below w.heap.size w w' := by
  by_cases h0 : s.size = 0
  · have hP : peekOf s = (hd0, 10) := by unfold peekOf; rw [if_pos h0]
    rw [hP]
    have hz : s = ⟨#[]⟩ := by
      apply ByteArray.ext; exact Array.eq_empty_of_size_eq_zero h0
    subst hz
    clear h0 hs hP
    go_enter Tryd.func43, Tryd.ntmps43
    go_wp2_with fail
    refine bodyPost_ret (v := peekV (hd0, 10)) ?_ rfl ⟨rfl, ?_⟩
    · simp [results, Tryd.results43, go_sem, peekV, Hd.val, hd0]
    · exact (Below.refl _ _).alloc (Nat.le_refl _) _
  have h0' : 0 < s.size := by omega
  have hse : s.toList.isEmpty = false := toList_isEmpty h0'
  have hb := sb_eq h0'
  by_cases h4 : sb s 0 / 16 = 4
  · have t1 : ((s[0].toNat : Int) / 16 == 4) = true := by rw [hb, beq_iff_eq]; omega
    by_cases hl : s.size < 20
    · have hP : peekOf s = (hd0, 10) := by unfold peekOf; rw [if_neg h0, if_pos h4, if_pos hl]
      rw [hP]
      have t2 : (s.size : Int) < 20 := by omega
      clear h0 hb h4
      go_enter Tryd.func43, Tryd.ntmps43
      go_wp2_with fail
      refine bodyPost_ret (v := peekV (hd0, 10)) ?_ rfl ⟨rfl, ?_⟩
      · simp [results, Tryd.results43, go_sem, peekV, Hd.val, hd0]
      · exact (Below.refl _ _).alloc (Nat.le_refl _) _
    · have t2 : (20 : Int) ≤ (s.size : Int) := by omega
      have hc := peek4_any (w.alloc zeroHead) s (by omega) hs
      have hP : peekOf s = if 4 * (sb s 0 % 16) < 20 ∨ pairAt s 2 < 4 * (sb s 0 % 16) then (hd0, 12)
          else if 4080 < pairAt s 2 then (hd0, 15) else (⟨4, 4 * (sb s 0 % 16), pairAt s 2, sb s 9⟩, 0) := by
        unfold peekOf; rw [if_neg h0, if_pos h4, if_neg hl]
      rw [hP]
      clear hP h0 hb h4 hl
      have hL := pairAt_lt s 2
      have hH : 4 * (sb s 0 % 16) < 64 := by omega
      generalize 4 * (sb s 0 % 16) = H at *
      generalize pairAt s 2 = L at *
      generalize sb s 9 = R at *
      have HC := Lib.hid hc
      clear hc
      by_cases c1 : H < 20
      · have d1 : decide ((H : Int) < 20) = true := by simp; omega
        rw [if_pos (.inl c1)]
        clear hL hH c1
        go_enter Tryd.func43, Tryd.ntmps43
        go_wp2_with fail
        refine HC.out.mono ?_
        rintro e w1 ⟨rfl, hB⟩
        obtain ⟨hz, k0, k1, k2, k3, f0, f1, f2, f3⟩ := head_kept hB
        have HB := Lib.hid (base_below hB)
        clear hB
        go_wp2_with fail
        refine bodyPost_ret (v := peekV (hd0, 12)) ?_ rfl ⟨rfl, ?_⟩
        · simp [results, Tryd.results43, go_sem, peekV, Hd.val, hd0, k0, k1, k2, k3, hz]
        · exact (((((HB.out.setCell (Nat.le_refl _) _).setCell (Nat.le_refl _) _).setCell (Nat.le_refl _) _).setCell (Nat.le_refl _) _)).alloc (by simp [World.setCell]; omega) _
      have d1 : decide ((H : Int) < 20) = false := by simp; omega
      by_cases c2 : L < H
      · have d2 : decide (L < H) = true := by simpa using c2
        rw [if_pos (.inr c2)]
        clear hL hH c1 c2
        go_enter Tryd.func43, Tryd.ntmps43
        go_wp2_with fail
        refine HC.out.mono ?_
        rintro e w1 ⟨rfl, hB⟩
        obtain ⟨hz, k0, k1, k2, k3, f0, f1, f2, f3⟩ := head_kept hB
        have HB := Lib.hid (base_below hB)
        clear hB
        go_wp2_with fail
        refine bodyPost_ret (v := peekV (hd0, 12)) ?_ rfl ⟨rfl, ?_⟩
        · simp [results, Tryd.results43, go_sem, peekV, Hd.val, hd0, k0, k1, k2, k3, hz]
        · exact (((((HB.out.setCell (Nat.le_refl _) _).setCell (Nat.le_refl _) _).setCell (Nat.le_refl _) _).setCell (Nat.le_refl _) _)).alloc (by simp [World.setCell]; omega) _
      have d2 : decide (L < H) = false := by simpa using c2
      rw [if_neg (by omega)]
      by_cases c3 : 4080 < L
      · have d3 : decide ((4080 : Int) < (L : Int)) = true := by simp; omega
        rw [if_pos c3]
        clear hL hH c1 c2 c3
        go_enter Tryd.func43, Tryd.ntmps43
        go_wp2_with fail
        refine HC.out.mono ?_
        rintro e w1 ⟨rfl, hB⟩
        obtain ⟨hz, k0, k1, k2, k3, f0, f1, f2, f3⟩ := head_kept hB
        have HB := Lib.hid (base_below hB)
        clear hB
        go_wp2_with fail
        refine bodyPost_ret (v := peekV (hd0, 15)) ?_ rfl ⟨rfl, ?_⟩
        · simp [results, Tryd.results43, go_sem, peekV, Hd.val, hd0, k0, k1, k2, k3, hz]
        · exact (((((HB.out.setCell (Nat.le_refl _) _).setCell (Nat.le_refl _) _).setCell (Nat.le_refl _) _).setCell (Nat.le_refl _) _)).alloc (by simp [World.setCell]; omega) _
      · have d3 : decide ((4080 : Int) < (L : Int)) = false := by simp; omega
        rw [if_neg c3]
        clear hL hH c1 c2 c3
        go_enter Tryd.func43, Tryd.ntmps43
        go_wp2_with fail
        refine HC.out.mono ?_
        rintro e w1 ⟨rfl, hB⟩
        obtain ⟨hz, k0, k1, k2, k3, f0, f1, f2, f3⟩ := head_kept hB
        have HB := Lib.hid (base_below hB)
        clear hB
        go_wp2_with fail
        refine bodyPost_ret (v := peekV (⟨4, H, L, R⟩, 0)) ?_ rfl ⟨rfl, ?_⟩
        · simp [results, Tryd.results43, go_sem, peekV, Hd.val, k0, k1, k2, k3, hz]
        · exact (((((HB.out.setCell (Nat.le_refl _) _).setCell (Nat.le_refl _) _).setCell (Nat.le_refl _) _).setCell (Nat.le_refl _) _)).alloc (by simp [World.setCell]; omega) _
  have t1 : ((s[0].toNat : Int) / 16 == 4) = false := by rw [hb, beq_eq_false_iff_ne]; omega
  by_cases h6 : sb s 0 / 16 = 6
  · have t6 : ((s[0].toNat : Int) / 16 == 6) = true := by rw [hb, beq_iff_eq]; omega
    by_cases hl : s.size < 40
    · have hP : peekOf s = (hd0, 10) := by unfold peekOf; rw [if_neg h0, if_neg h4, if_pos h6, if_pos hl]
      rw [hP]
      have t2 : (s.size : Int) < 40 := by omega
      clear h0 hb h4 h6
      go_enter Tryd.func43, Tryd.ntmps43
      go_wp2_with fail
      refine bodyPost_ret (v := peekV (hd0, 10)) ?_ rfl ⟨rfl, ?_⟩
      · simp [results, Tryd.results43, go_sem, peekV, Hd.val, hd0]
      · exact (Below.refl _ _).alloc (Nat.le_refl _) _
    · have t2 : (40 : Int) ≤ (s.size : Int) := by omega
      have hc := peek6_any (w.alloc zeroHead) s (by omega) hs
      have hP : peekOf s = if 4080 < 40 + pairAt s 4 then (hd0, 15) else (⟨6, 40, 40 + pairAt s 4, sb s 6⟩, 0) := by
        unfold peekOf; rw [if_neg h0, if_neg h4, if_pos h6, if_neg hl]
      rw [hP]
      clear hP h0 hb h4 h6 hl
      have hL := pairAt_lt s 4
      have hL2 : 40 ≤ 40 + pairAt s 4 := by omega
      have hL3 : 40 + pairAt s 4 < 70000 := by omega
      clear hL
      generalize 40 + pairAt s 4 = L at *
      generalize sb s 6 = R at *
      have HC := Lib.hid hc
      clear hc
      have d2 : decide ((L : Int) < 40) = false := by simp; omega
      by_cases c3 : 4080 < L
      · have d3 : decide ((4080 : Int) < (L : Int)) = true := by simp; omega
        rw [if_pos c3]
        clear hL2 hL3 c3
        go_enter Tryd.func43, Tryd.ntmps43
        go_wp2_with fail
        refine HC.out.mono ?_
        rintro e w1 ⟨rfl, hB⟩
        obtain ⟨hz, k0, k1, k2, k3, f0, f1, f2, f3⟩ := head_kept hB
        have HB := Lib.hid (base_below hB)
        clear hB
        go_wp2_with fail
        refine bodyPost_ret (v := peekV (hd0, 15)) ?_ rfl ⟨rfl, ?_⟩
        · simp [results, Tryd.results43, go_sem, peekV, Hd.val, hd0, k0, k1, k2, k3, hz]
        · exact (((((HB.out.setCell (Nat.le_refl _) _).setCell (Nat.le_refl _) _).setCell (Nat.le_refl _) _).setCell (Nat.le_refl _) _)).alloc (by simp [World.setCell]; omega) _
      · have d3 : decide ((4080 : Int) < (L : Int)) = false := by simp; omega
        rw [if_neg c3]
        clear hL2 hL3 c3
        go_enter Tryd.func43, Tryd.ntmps43
        go_wp2_with fail
        refine HC.out.mono ?_
        rintro e w1 ⟨rfl, hB⟩
        obtain ⟨hz, k0, k1, k2, k3, f0, f1, f2, f3⟩ := head_kept hB
        have HB := Lib.hid (base_below hB)
        clear hB
        go_wp2_with fail
        refine bodyPost_ret (v := peekV (⟨6, 40, L, R⟩, 0)) ?_ rfl ⟨rfl, ?_⟩
        · simp [results, Tryd.results43, go_sem, peekV, Hd.val, k0, k1, k2, k3, hz]
        · exact (((((HB.out.setCell (Nat.le_refl _) _).setCell (Nat.le_refl _) _).setCell (Nat.le_refl _) _).setCell (Nat.le_refl _) _)).alloc (by simp [World.setCell]; omega) _
  have t6 : ((s[0].toNat : Int) / 16 == 6) = false := by rw [hb, beq_eq_false_iff_ne]; omega
  have hP : peekOf s = (hd0, 14) := by unfold peekOf; rw [if_neg h0, if_neg h4, if_neg h6]
  rw [hP]
  clear h0 hb h4 h6
  go_enter Tryd.func43, Tryd.ntmps43
  go_wp2_with fail
  refine bodyPost_ret (v := peekV (hd0, 14)) ?_ rfl ⟨rfl, ?_⟩
  · simp [results, Tryd.results43, go_sem, peekV, Hd.val, hd0]
  · exact (Below.refl _ _).alloc (Nat.le_refl _) _

end Go.Proofs.YtmfpmgelhhbfiaaDoor
