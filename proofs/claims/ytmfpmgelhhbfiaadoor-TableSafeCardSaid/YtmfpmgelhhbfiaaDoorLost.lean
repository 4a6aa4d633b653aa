/- What is lost of a row. -/
import Derived.Test.YtmfpmgelhhbfiaaDoorPad
import Derived.Deep.MidRow
namespace Go.Proofs.YtmfpmgelhhbfiaaDoor
open Go.RowKit

/-- 'a[i]' of an array by value whose elements are one cell. -/
theorem run_index_one {P : Program} (w : World) (t e : TypeId) (n : Nat) (cs : Array Value) (k : IntKind) (i : Int) (v : Value) (d : TypeDesc) (h : P.underlying t = some (.array n e)) (he : P.underlying e = some d)
    (hd : d.isRow = false) (hs : (P.info? e).map (·.size) = some 1) (h0 : 0 ≤ i) (h1 : i < (n : Int)) (hc : cs[i.toNat]? = some v) :
    (Instr.index t (.agg cs) (.int k i)).run P w = .ok v w := by
  obtain ⟨x, hx, hxs⟩ := Option.map_eq_some_iff.1 hs
  have ha : (isAgg e).run P w = .ok false w := by
    unfold isAgg
    cases d <;> simp [TypeDesc.isRow] at hd <;> simp [run_underlying he, go_sem]
  simp [Instr.index, run_underlying h, asIntOf, h0, h1, go_sem, sizeOf, typeInfo, hx, hxs, part, ha, hc]

/-- The columns of a row that are not known, below m. -/
def lostTo (K : Nat → Nat → Bool) (r m : Nat) : List Nat := (List.range m).filter fun c => !K r c
def lostOf (K : Nat → Nat → Bool) (r : Nat) : List Nat := lostTo K r 255

theorem lostTo_succ (K : Nat → Nat → Bool) (r m : Nat) : lostTo K r (m + 1) = lostTo K r m ++ if K r m then [] else [m] := by
  unfold lostTo
  rw [List.range_succ, List.filter_append]
  cases h : K r m <;> simp [h]
theorem cells_one {w : World} {a : Nat} {x : Value} (h : w.cell? ⟨a, 0, none⟩ = some x) : ∀ j u, [x][j]? = some u → w.cell? ((⟨a, 0, none⟩ : Addr).add j) = some u := by
  intro j u hj
  cases j with
  | zero => simp at hj; subst hj; exact h
  | succ j => simp at hj
theorem lostTo_len (K : Nat → Nat → Bool) (r m : Nat) : (lostTo K r m).length ≤ m := by
  unfold lostTo; have := List.length_filter_le (fun c => !K r c) (List.range m); simpa using this

/-- What lost leaves: a new row of ints. -/
def NewInts (w : World) (l : List Nat) (e : Ending) (w' : World) : Prop := ∃ v, e = .returned v ∧ IntRow w' v l ∧ Below w.heap.size w w' ∧ (∀ k, v.ownBlock = some k → w.heap.size ≤ k) ∧ ∃ a c, v = .slice a l.length c

set_option maxRecDepth 100000 in
set_option maxHeartbeats 1000000 in
theorem lost_any (w : World) (rb n r : Nat) (B : Nat → Nat → Nat) (K : Nat → Nat → Bool) (hr : r < n) (hR : RowsAt w rb n B K) :
    Calls Tryd.prog 34 #[.pointer (some ⟨rb, r * 510, none⟩)] w (NewInts w (lostOf K r)) := by
  obtain ⟨i0, hi, hz0, hz1, hz2⟩ := info_parts Tryd.info3
  have hrange : w.rangeAt rb (r * 510 + 255) ((List.range 255).map fun c => Value.bool (K r c)) := by
    intro j v hj
    have hj' : j < 255 := by
      rcases Nat.lt_or_ge j 255 with h | h
      · exact h
      · rw [List.getElem?_eq_none (by simpa using h)] at hj; cases hj
    rw [hR.known hr hj']
    simp [hj'] at hj
    rw [← hj]
  have HR := Lib.hid hrange
  have hidx : ∀ m : Nat, m < 255 → ∀ w : World, (Instr.index 82 (.agg ((List.range 255).map fun c => Value.bool (K r c)).toArray) (.int .i64 m)).run Tryd.prog w = .ok (.bool (K r m)) w := by
    intro m hm w
    refine run_index_one w _ 4 255 _ .i64 m _ _ Tryd.underlying82 Tryd.underlying4 rfl (by kernel_rfl) (by omega) (by omega) ?_
    simp [hm]
  have HX := Lib.hid hidx
  have hlen : ((List.range 255).map fun c => Value.bool (K r c)).length = 255 := by simp
  have HL := Lib.hid hlen
  clear hrange hidx hlen hR
  generalize hcs : ((List.range 255).map fun c => Value.bool (K r c)) = cs at *
  clear hcs
  go_enter Tryd.func34, Tryd.ntmps34
  go_wp2_with (refine wpList_load_mid rfl 82 (.tmp 8) rfl rb (r * 510 + 255) rfl cs _ HR.out Tryd.underlying82 rfl (by rw [HL.out]; kernel_rfl) ?_)
  go_loopw [3, 10] (fun v i wr => ∃ m : Nat, m ≤ 255 ∧ i = .int .i64 m ∧ IntRow wr v (lostTo K r m) ∧ Below w.heap.size w wr ∧ (∀ k, v.ownBlock = some k → w.heap.size ≤ k)) (fun _ i _ => 255 - (intOf i).toNat)
  case atStart => exact ⟨0, by omega, rfl, IntRow.nil _, Below.refl _ _, fun k hk => by cases hk⟩
  case round =>
    obtain ⟨m, hm, rfl, hI, hB, hown⟩ := hrel
    have hll := lostTo_len K r m
    by_cases hlt : m < 255
    · have hx := HX.out m hlt
      cases hK : K r m with
      | true =>
        rw [hK] at hx
        go_wp2_with fail
        go_roundw
        case rel => exact ⟨m + 1, by omega, by go_num, by rw [lostTo_succ, hK]; simpa using hI, hB, hown⟩
        case measure => simp [intOf]; omega
      | false =>
        rw [hK] at hx
        have hI2 : (wr.alloc (.cells #[.int .i64 m] 3)).ownsRow 0 3 1 u3 (lostTo K r m).length ((lostTo K r m).map fun k : Nat => Value.int .i64 (k : Int)) := World.ownsRow.alloc hI _
        have HI2 := Lib.hid hI2
        have hc0 := RowAt.new wr 3 #[.int .i64 m]
        have HC0 := Lib.hid hc0
        have HO := Lib.hid hown
        clear hI2 hc0 hown
        go_wp2_with (at_builtin; refine wpList_append_own_at _ rfl _ _ 24 rfl 0 3 i0 (.int .i64 0) 1 8 Tryd.underlying24 hi hz0 hz1 hz2 rfl (by decide) _ _ _ rfl HI2.out ⟨wr.heap.size, 0, none⟩ 1 1 [.int .i64 m] rfl rfl ?_ ?_ ?_ ?_ (Nat.zero_le _) ?_)
        case refine_1 => exact cells_one (HC0.out.cell 0)
        case refine_2 => intro u hu; simp at hu; subst hu; rfl
        case refine_3 => unfold maxLen; omega
        case refine_4 => omega
        case refine_5 =>
          intro v' w1 hown1 hgrow _ hloc
          have hI1 : IntRow w1 v' (lostTo K r (m + 1)) := by
            rw [lostTo_succ, hK]; unfold IntRow; simpa using hown1
          have hB1 : Below w.heap.size w w1 := by
            refine (hB.alloc hB.size _).grown hgrow (by have := hB.size; simp; omega) (fun k hk => ?_)
            exact HO.out k hk
          have ho1 : ∀ k, v'.ownBlock = some k → w.heap.size ≤ k := by
            intro k hk
            rcases hloc with h | h
            · exact HO.out k (by rw [← h, hk])
            · rw [h] at hk; cases hk; have := hB.size; simp; omega
          clear hown1 hgrow hloc HI2 HC0
          have H1 := Lib.hid hI1
          have H2 := Lib.hid hB1
          have H3 := Lib.hid ho1
          clear hI1 hB1 ho1 hB
          go_wp2_with fail
          go_roundw
          case rel => exact ⟨m + 1, by omega, by go_num, H1.out, H2.out, H3.out⟩
          case measure => simp [intOf]; omega
    · obtain rfl : m = 255 := by omega
      have HI := Lib.hid hI
      have HB := Lib.hid hB
      have HO := Lib.hid hown
      clear hI hB hown
      go_wp2_with fail
      go_ret
      have hsl : ∃ a c, u3 = .slice a (lostOf K r).length c := by
        rcases HI.out.2 with ⟨h, h0⟩ | ⟨g, cap, cur, h, _⟩
        · exact ⟨none, 0, by rw [h]; unfold lostOf; rw [h0]⟩
        · exact ⟨_, _, h⟩
      exact ⟨u3, rfl, HI.out, HB.out, HO.out, hsl⟩

set_option maxRecDepth 100000 in
set_option maxHeartbeats 1000000 in
/-- How many bytes of a row are lost. -/
theorem lost_calls (w : World) (tb rb n r : Nat) (B : Nat → Nat → Nat) (K : Nat → Nat → Bool) (hr : r < n) (hR : RowsAt w rb n B K) (hc : w.cell? ⟨tb, 0, none⟩ = some (.slice (some ⟨rb, 0, none⟩) n n)) :
    Calls Tryd.prog 13 #[.pointer (some ⟨tb, 0, none⟩), .int .i64 r] w fun e w' => e = .returned (.tuple #[.int .i64 (lostOf K r).length, .int .i64 0]) ∧ Below w.heap.size w w' := by
  have h1 : decide ((r : Int) < 0) = false := by simp
  have h2 : decide ((n : Int) ≤ (r : Int)) = false := by simp; omega
  have HR := Lib.hid hR
  clear hR
  go_enter Tryd.func13, Tryd.ntmps13
  go_wp2_with fail
  refine (lost_any w rb n r B K hr HR.out).mono ?_
  rintro e w1 ⟨v, rfl, hI, hB, _, a, c, rfl⟩
  clear hI
  have HB := Lib.hid hB
  clear hB
  go_wp2
  go_ret2
  exact ⟨rfl, HB.out⟩

end Go.Proofs.YtmfpmgelhhbfiaaDoor
