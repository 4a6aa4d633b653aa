/- A new frame. -/
import Derived.Test.YtmfpmgelhhbfiaaDoorFplc
import Derived.Test.YtmfpmgelhhbfiaaDoorNewt
namespace Go.Proofs.YtmfpmgelhhbfiaaDoor
open Go.RowKit

/-- May a frame be so? -/
def cfgB (n cols cut : Int) : Bool := fourSizes.contains n && decide (1 ≤ cols) && decide (cols ≤ 191) && decide (0 ≤ cut) && decide (cut ≤ 64)
def cfgE (n cols cut : Int) : Int := if cfgB n cols cut = true then 0 else 23
theorem cfgB_ok {n cols cut : Int} (h : cfgB n cols cut = true) : n ∈ fourSizes ∧ 1 ≤ cols ∧ cols ≤ 191 ∧ 0 ≤ cut ∧ cut ≤ 64 := by
  simp [cfgB] at h
  exact ⟨h.1.1.1.1, h.1.1.1.2, h.1.1.2, h.1.2, h.2⟩

def SizesF (w : World) (g : Nat) : Prop := SizesAt w g

set_option maxRecDepth 100000 in
set_option maxHeartbeats 4000000 in
theorem check_cfg (w : World) (n cols cut : Int) (hT : SizesF w 0) :
    Calls Tryd.prog 21 #[.agg #[.int .i64 n, .int .i64 cols, .int .i64 cut]] w fun e w' => e = .returned (.int .i64 (cfgE n cols cut)) ∧ Below w.heap.size w w' := by
  have hc : ∀ q, Calls Tryd.prog 38 #[.slice (some ⟨0, 0, none⟩) 4 4, .int .i64 n] ((w.alloc (.cells #[.int .i64 n, .int .i64 cols, .int .i64 cut] 23)).drewN q) fun e w' => e = .returned (.bool (fourSizes.contains n)) ∧ w' = ((w.alloc (.cells #[.int .i64 n, .int .i64 cols, .int .i64 cut] 23)).drewN q) := by
    intro q
    have hT2 : SizesAt ((w.alloc (.cells #[.int .i64 n, .int .i64 cols, .int .i64 cut] 23)).drewN q) 0 :=
      SizesAt.frm (S := fun _ => False) hT (((Frm.refl _ w).alloc _).drewN q) (fun h => h)
    exact Tryd.slices_Contains_int 0 0 4 4 fourSizes n _ (by decide) (by decide) hT2
  by_cases h1 : fourSizes.contains n = true
  · rw [h1] at hc
    have HC := Lib.hid hc
    by_cases k1 : cols < 1
    · have dk1 : decide (cols < 1) = true := by simpa using k1
      have hE : cfgE n cols cut = 23 := by unfold cfgE; rw [if_neg]; intro h; have := cfgB_ok h; omega
      rw [hE]
      clear hE
      clear hc hT
      go_enter Tryd.func21, Tryd.ntmps21
      go_wp2_with fail
      go_quiet ((go_at_call 38; exact Calls.quiet_of_same (HC.out _)))
      go_wp2_with fail
      go_ret
      exact ⟨rfl, ((Below.refl _ _).alloc (Nat.le_refl _) _).drewN _⟩
    · have dk1 : decide (cols < 1) = false := by simpa using k1
      by_cases k2 : 191 < cols
      · have dk2 : decide (191 < cols) = true := by simpa using k2
        have hE : cfgE n cols cut = 23 := by unfold cfgE; rw [if_neg]; intro h; have := cfgB_ok h; omega
        rw [hE]
        clear hE
        clear hc hT
        go_enter Tryd.func21, Tryd.ntmps21
        go_wp2_with fail
        go_quiet ((go_at_call 38; exact Calls.quiet_of_same (HC.out _)))
        go_wp2_with fail
        go_ret
        exact ⟨rfl, ((Below.refl _ _).alloc (Nat.le_refl _) _).drewN _⟩
      · have dk2 : decide (191 < cols) = false := by simpa using k2
        by_cases k3 : cut < 0
        · have dk3 : decide (cut < 0) = true := by simpa using k3
          have hE : cfgE n cols cut = 23 := by unfold cfgE; rw [if_neg]; intro h; have := cfgB_ok h; omega
          rw [hE]
          clear hE
          clear hc hT
          go_enter Tryd.func21, Tryd.ntmps21
          go_wp2_with fail
          go_quiet ((go_at_call 38; exact Calls.quiet_of_same (HC.out _)))
          go_wp2_with fail
          go_ret
          exact ⟨rfl, ((Below.refl _ _).alloc (Nat.le_refl _) _).drewN _⟩
        · have dk3 : decide (cut < 0) = false := by simpa using k3
          by_cases k4 : 64 < cut
          · have dk4 : decide (64 < cut) = true := by simpa using k4
            have hE : cfgE n cols cut = 23 := by unfold cfgE; rw [if_neg]; intro h; have := cfgB_ok h; omega
            rw [hE]
            clear hE
            clear hc hT
            go_enter Tryd.func21, Tryd.ntmps21
            go_wp2_with fail
            go_quiet ((go_at_call 38; exact Calls.quiet_of_same (HC.out _)))
            go_wp2_with fail
            go_ret
            exact ⟨rfl, ((Below.refl _ _).alloc (Nat.le_refl _) _).drewN _⟩
          · have dk4 : decide (64 < cut) = false := by simpa using k4
            have hE : cfgE n cols cut = 0 := by
              unfold cfgE cfgB
              rw [if_pos]
              simp at h1 ⊢
              exact ⟨⟨⟨⟨h1, by omega⟩, by omega⟩, by omega⟩, by omega⟩
            rw [hE]
            clear hE
            clear hc hT
            go_enter Tryd.func21, Tryd.ntmps21
            go_wp2_with fail
            go_quiet ((go_at_call 38; exact Calls.quiet_of_same (HC.out _)))
            go_wp2_with fail
            go_ret
            exact ⟨rfl, ((Below.refl _ _).alloc (Nat.le_refl _) _).drewN _⟩
  · have h1 : fourSizes.contains n = false := by simpa using h1
    have hE : cfgE n cols cut = 23 := by unfold cfgE cfgB; rw [h1]; rfl
    rw [h1] at hc
    have HC := Lib.hid hc
    rw [hE]
    clear hc h1 hE hT
    go_enter Tryd.func21, Tryd.ntmps21
    go_wp2_with fail
    go_quiet ((go_at_call 38; exact Calls.quiet_of_same (HC.out _)))
    go_wp2_with fail
    go_ret
    exact ⟨rfl, ((Below.refl _ _).alloc (Nat.le_refl _) _).drewN _⟩

def NewFrame (w : World) (n cols cut : Nat) (e : Ending) (w' : World) : Prop :=
  ∃ fb S, e = .returned (.tuple #[.pointer (some ⟨fb, 0, none⟩), .int .i64 0]) ∧ FrameAt w' fb n cols cut [] S ∧ Below w.heap.size w w' ∧ ∀ k, S k → w.heap.size ≤ k

def frow : Value := .agg (Array.replicate 255 (.int .u8 0))
theorem Tryd.infofr : (Tryd.prog.info? 96).map (fun i => (i.zero, i.size, i.bytes)) = some (some frow, 255, 255) := by kernel_rfl

theorem run_make_rowN {P : Program} (t e : TypeId) (i : TypeInfo) (z : Value) (ht : P.underlying t = some (.slice e)) (hi : P.info? e = some i) (hz : i.zero = some z)
    (kl kc : IntKind) (n c : Nat) (hnc : n ≤ c) (hbytes : i.bytes * c ≤ 281474976710656) (h63 : c ≤ 9223372036854775807) (w : World) :
    (Instr.makeSlice t (.int kl (n : Int)) (.int kc (c : Int))).run P w = .ok (.slice (some ⟨w.heap.size, 0, none⟩) n c) (w.alloc (.cells (madeCells z.cells (c * i.size)) e)) := by
  have hb : (i.bytes : Int) * (c : Int) ≤ 281474976710656 := by
    have h : ((i.bytes * c : Nat) : Int) ≤ 281474976710656 := by omega
    rwa [Int.natCast_mul] at h
  have hr := run_make (P := P) w t e i z ht hi hz kl kc n c (by omega) (by omega) hb (by omega)
  simp only [Int.toNat_natCast] at hr
  exact hr

set_option maxRecDepth 100000 in
set_option maxHeartbeats 4000000 in
theorem fnew_calls (w : World) (n cols cut : Nat) (hok : cfgB n cols cut = true) (hT : SizesF w 0) :
    Calls Tryd.prog 24 #[.agg #[.int .i64 n, .int .i64 cols, .int .i64 cut]] w (NewFrame w n cols cut) := by
  obtain ⟨i0, hi, hz0, hz1, hz2⟩ := info_parts Tryd.infofr
  obtain ⟨k1, k2, k3, k4, k5⟩ := cfgB_ok hok
  have hb : n = 256 ∨ n = 512 ∨ n = 768 ∨ n = 1024 := by
    simp [fourSizes] at k1; omega
  have hn : 0 < n ∧ n ≤ 1024 := by omega
  have hc := fun W h => check_cfg W n cols cut h
  rw [show cfgE n cols cut = 0 from by unfold cfgE; rw [if_pos hok]] at hc
  have HC := Lib.hid hc
  have hmk := fun W : World => run_make_rowN (P := Tryd.prog) 67 96 i0 frow Tryd.underlying67 hi hz0 .i64 .i64 n n (Nat.le_refl _) (by rw [hz2]; omega) (by omega) W
  rw [hz1] at hmk
  obtain ⟨zc, hzc⟩ : ∃ zc, madeCells frow.cells (n * 255) = zc := ⟨_, rfl⟩
  rw [hzc] at hmk
  have HZ := Lib.hid hzc
  have HT := Lib.hid (SizesAt.frm (S := fun _ => False) hT ((Frm.refl _ w).alloc (.cells #[.int .i64 n, .int .i64 cols, .int .i64 cut] 23)) (fun h => h))
  have hcell := RowAt.new w 23 #[.int .i64 n, .int .i64 cols, .int .i64 cut]
  have HRW := Lib.hid hcell
  clear hT hok hc k1 hb hcell hi hz0 hz1 hz2 hzc
  go_enter Tryd.func24, Tryd.ntmps24
  go_wp2_with fail
  refine (HC.out _ HT.out).mono ?_
  rintro e w1 ⟨rfl, hB⟩
  have hr1 := HRW.out.frm (Frm.of_below hB) (by simp)
  have hlt := hr1.lt
  have c0 : w1.cell? ⟨w.heap.size, 0, none⟩ = some (.int .i64 n) := hr1.cell 0
  have c1 : w1.cell? ⟨w.heap.size, 1, none⟩ = some (.int .i64 cols) := hr1.cell 1
  have c2 : w1.cell? ⟨w.heap.size, 2, none⟩ = some (.int .i64 cut) := hr1.cell 2
  have HB := Lib.hid (((Below.refl w.heap.size w).alloc (Nat.le_refl _) (.cells #[.int .i64 n, .int .i64 cols, .int .i64 cut] 23)).trans (hB.mono (by simp)))
  clear hr1 hB HC HT HRW
  go_wp2_with fail
  go_region
  go_wp2_with fail
  go_ret2
  have hr1 := RowAt.new w1 96 zc
  have hr2 := RowAt.new (w1.alloc (.cells zc 96)) 69 (fcells n cols cut 0 (.slice none 0 0) w1.heap.size false)
  rw [← HZ.out] at hr1
  have hfr := frows_made (hr1.alloc (.cells (fcells n cols cut 0 (.slice none 0 0) w1.heap.size false) 69))
  rw [World.size_alloc] at hr2
  rw [HZ.out] at hfr
  refine ⟨w1.heap.size + 1, fun k => k = w1.heap.size ∨ k = w1.heap.size + 1, rfl, ⟨⟨w1.heap.size, .slice none 0 0, false, fun _ _ => 0, ⟨by omega, hr2.drew, hfr.drew, FPlaced.nil _, by simp [Value.ownBlock], by simp [Value.ownBlock], fun _ _ => by decide, fun r c _ _ => (dataB_nil n r c).symm, fun _ r c _ _ _ => (parB_nil n r (c - 191)).symm, hn.1, hn.2, by omega, by omega, Nat.zero_le _, by simp⟩, .inr rfl, .inl rfl, fun k hk => by cases hk⟩, ?_⟩, ?_, ?_⟩
  · rintro k (rfl | rfl) <;> simp <;> omega
  · exact ((HB.out.alloc HB.out.size _).alloc (by have := HB.out.size; simp; omega) _).drew
  · have := HB.out.size
    rintro k (rfl | rfl) <;> omega
end Go.Proofs.YtmfpmgelhhbfiaaDoor
