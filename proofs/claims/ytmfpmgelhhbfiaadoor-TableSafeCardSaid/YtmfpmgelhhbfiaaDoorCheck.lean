/- Datagrams: Check. -/
import Derived.Test.YtmfpmgelhhbfiaaDoorSum
namespace Go.Proofs.YtmfpmgelhhbfiaaDoor
open Go.RowKit

/-- What is wrong with a datagram, by what its beginning tells. -/
def chk (p : Hd × Nat) (s : ByteArray) : Nat :=
  if p.2 ≠ 0 then p.2
  else if s.size < p.1.len then 10
  else if p.1.len < s.size then 11
  else if p.1.ver = 4 ∧ sumOf (s.extract 0 p.1.hdr) ≠ 0 then 13
  else 0
def checkOf (s : ByteArray) : Nat := chk (peekOf s) s

/-- What is known of a beginning that is one. -/
theorem peekOf_ok {s : ByteArray} {p : Hd × Nat} (hp : peekOf s = p) (h : p.2 = 0) : p.1.hdr ≤ p.1.len ∧ p.1.len ≤ 4080 ∧ 20 ≤ p.1.hdr ∧ p.1.hdr ≤ 60 ∧ p.1.hdr ≤ 4 * s.size := by
  have hm : sb s 0 % 16 < 16 := Nat.mod_lt _ (by omega)
  unfold peekOf at hp
  (repeat' split at hp) <;> subst hp <;> simp at h <;> (dsimp only; omega)

theorem str_one {w : World} {a : Nat} {x : ByteArray} (h : w.cell? ⟨a, 0, none⟩ = some (.string x)) : ∀ (j : Nat) y, [x][j]? = some y → w.cell? ⟨a, 0 + j, none⟩ = some (.string y) := by
  intro j y hj
  cases j with
  | zero => simp at hj; subst hj; exact h
  | succ j => simp at hj
theorem new_cell0 {W : World} {n : Nat} (hn : W.heap.size = n) (e : TypeId) (x : Value) : (W.alloc (.cells #[x] e)).cell? ⟨n, 0, none⟩ = some x := by subst hn; exact (RowAt.new W _ _).cell 0
theorem size_extract0 (s : ByteArray) (h : Nat) : (s.extract 0 h).size ≤ s.size := by simp; omega

theorem peekV_eq (h : Hd) (e : Nat) : peekV (h, e) = .tuple #[.agg #[.int .i64 h.ver, .int .i64 h.hdr, .int .i64 h.len, .int .i64 h.proto], .int .i64 e] := rfl

theorem err_ne {e : Nat} (h : e ≠ 0) : ((e : Int) != 0) = true := by rw [bne_iff_ne]; omega
theorem join_one (x : ByteArray) : x.data.toList = Lib.join ([x].map (·.data.toList)) [] := by simp [Lib.join]

set_option maxRecDepth 100000 in
set_option maxHeartbeats 2000000 in
theorem check_calls (w : World) (s : ByteArray) (hs : s.size ≤ 9223372036854775807) :
    Calls Tryd.prog 40 #[.string s] w fun e w' => e = .returned (.int .i64 (checkOf s)) ∧ Below w.heap.size w w' := by
  have hp := peek_calls w s hs
  have hk := @peekOf_ok s
  unfold checkOf
  generalize peekOf s = p at *
  obtain ⟨⟨v, h, l, pr⟩, e⟩ := p
  replace hk := hk rfl
  rw [peekV_eq] at hp
  dsimp only at *
  have HP := Lib.hid hp
  clear hp
  by_cases he : e = 0
  · subst he
    obtain ⟨k1, k2, k3, k4, k5⟩ := hk rfl
    clear hk
    by_cases c1 : s.size < l
    · have hC : chk (⟨v, h, l, pr⟩, 0) s = 10 := by simp [chk, c1]
      rw [hC]
      have d1 : decide (s.size < l) = true := by simpa using c1
      clear hC k1 k2 k3 k4 k5 c1
      go_enter Tryd.func40, Tryd.ntmps40
      go_wp2_with fail
      refine HP.out.mono ?_
      rintro e w1 ⟨rfl, hB⟩
      have HB := Lib.hid hB
      clear hB
      go_wp2_with fail
      go_ret
      exact ⟨rfl, HB.out.alloc HB.out.size _⟩
    have d1 : decide (s.size < l) = false := by simpa using c1
    by_cases c2 : l < s.size
    · have hC : chk (⟨v, h, l, pr⟩, 0) s = 11 := by simp [chk, c1, c2]
      rw [hC]
      have d2 : decide (l < s.size) = true := by simpa using c2
      clear hC k1 k2 k3 k4 k5 c1 c2
      go_enter Tryd.func40, Tryd.ntmps40
      go_wp2_with fail
      refine HP.out.mono ?_
      rintro e w1 ⟨rfl, hB⟩
      have HB := Lib.hid hB
      clear hB
      go_wp2_with fail
      go_ret
      exact ⟨rfl, HB.out.alloc HB.out.size _⟩
    have d2 : decide (l < s.size) = false := by simpa using c2
    have hsl : h ≤ s.size := by omega
    have hlen : s.size ≤ 4080 := by omega
    by_cases c3 : v = 4
    · subst c3
      by_cases c4 : sumOf (s.extract 0 h) = 0
      · have hC : chk (⟨4, h, l, pr⟩, 0) s = 0 := by simp [chk, c1, c2, c4]
        rw [hC]
        have H4 := Lib.hid c4
        clear c4
        clear hC k1 k2 k3 k4 k5 c1 c2
        go_enter Tryd.func40, Tryd.ntmps40
        go_wp2_with fail
        refine HP.out.mono ?_
        rintro e w1 ⟨rfl, hB⟩
        have HB := Lib.hid hB
        clear hB
        go_wp2_with fail
        refine (sum_calls _ (w1.heap.size + 1) 1 [s.extract 0 h] (s.extract 0 h) (join_one _) (by have := size_extract0 s h; omega) (by simp) (by simp) (str_one ?_) (by simp)).mono ?_
        · exact new_cell0 (by simp) _ _
        rintro e w2 ⟨rfl, hB2⟩
        have HB2 := Lib.hid hB2
        clear hB2
        rw [H4.out]
        go_wp2_with fail
        go_ret
        refine ⟨rfl, ?_⟩
        exact ((HB.out.alloc HB.out.size _).alloc (by have := HB.out.size; simp; omega) _).trans (HB2.out.mono (by have := HB.out.size; simp; omega))
      · have hC : chk (⟨4, h, l, pr⟩, 0) s = 13 := by simp [chk, c1, c2, c4]
        rw [hC]
        have d4 := err_ne c4
        clear c4
        clear hC k1 k2 k3 k4 k5 c1 c2
        go_enter Tryd.func40, Tryd.ntmps40
        go_wp2_with fail
        refine HP.out.mono ?_
        rintro e w1 ⟨rfl, hB⟩
        have HB := Lib.hid hB
        clear hB
        go_wp2_with fail
        refine (sum_calls _ (w1.heap.size + 1) 1 [s.extract 0 h] (s.extract 0 h) (join_one _) (by have := size_extract0 s h; omega) (by simp) (by simp) (str_one ?_) (by simp)).mono ?_
        · exact new_cell0 (by simp) _ _
        rintro e w2 ⟨rfl, hB2⟩
        have HB2 := Lib.hid hB2
        clear hB2
        generalize sumOf (s.extract 0 h) = S at *
        go_wp2_with fail
        go_ret
        refine ⟨rfl, ?_⟩
        exact ((HB.out.alloc HB.out.size _).alloc (by have := HB.out.size; simp; omega) _).trans (HB2.out.mono (by have := HB.out.size; simp; omega))
    · have hC : chk (⟨v, h, l, pr⟩, 0) s = 0 := by simp [chk, c1, c2, c3]
      rw [hC]
      have d3 : ((v : Int) == 4) = false := by rw [beq_eq_false_iff_ne]; omega
      clear hC k1 k2 k3 k4 k5 c1 c2 c3
      go_enter Tryd.func40, Tryd.ntmps40
      go_wp2_with fail
      refine HP.out.mono ?_
      rintro e w1 ⟨rfl, hB⟩
      have HB := Lib.hid hB
      clear hB
      go_wp2_with fail
      go_ret
      exact ⟨rfl, HB.out.alloc HB.out.size _⟩
  · have hC : chk (⟨v, h, l, pr⟩, e) s = e := by simp [chk, he]
    rw [hC]
    have d1 := err_ne he
    clear hC hk
    go_enter Tryd.func40, Tryd.ntmps40
    go_wp2_with fail
    refine HP.out.mono ?_
    rintro e w1 ⟨rfl, hB⟩
    have HB := Lib.hid hB
    clear hB
    go_wp2_with fail
    go_ret
    exact ⟨rfl, HB.out.alloc HB.out.size _⟩

end Go.Proofs.YtmfpmgelhhbfiaaDoor
