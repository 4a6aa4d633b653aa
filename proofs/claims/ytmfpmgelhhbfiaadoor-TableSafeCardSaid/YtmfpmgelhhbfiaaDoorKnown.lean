/- What is known of a table from a place on. -/
import Derived.Test.YtmfpmgelhhbfiaaDoorLost
import Derived.Test.YtmfpmgelhhbfiaaDoorCheck
import Derived.Lib.BufferRead
namespace Go.Proofs.YtmfpmgelhhbfiaaDoor
open Go.RowKit

theorem Tryd.infob : (Tryd.prog.info? 5).map (fun i => (i.zero, i.size, i.bytes)) = some (some (.int .u8 0), 1, 1) := by kernel_rfl

def byteV (b : UInt8) : Value := .int .u8 (b.toNat : Int)
/-- A row of bytes that a call owns. -/
def ByteRow (w : World) (v : Value) (l : List UInt8) : Prop := w.ownsRow 0 5 1 v l.length (l.map byteV)

theorem ByteRow.frm {S : Nat → Prop} {w w' : World} {v : Value} {l : List UInt8} (h : ByteRow w v l) (f : Frm S w w') (hs : ∀ k, v.ownBlock = some k → ¬ S k) : ByteRow w' v l := by
  refine ⟨h.1, ?_⟩
  rcases h.2 with hn | ⟨g, cap, cur, rfl, hb, hgg, rest⟩
  · exact .inl hn
  · exact .inr ⟨g, cap, cur, rfl, hb, f.heap hgg (hs g rfl), rest⟩
theorem ByteRow.nil (w : World) : ByteRow w (.slice none 0 0) [] := World.ownsRow_nil w 0 _ 1
theorem ByteRow.drewN {w : World} {v : Value} {l : List UInt8} (h : ByteRow w v l) (q : Nat) : ByteRow (w.drewN q) v l := h

theorem ByteRow.text {w : World} {v : Value} {l : List UInt8} (h : ByteRow w v l) : (convert 89 9 v).run Tryd.prog w = .ok (.string ⟨l.toArray⟩) w := by
  obtain ⟨h1, h2⟩ := h
  rcases h2 with ⟨rfl, h0⟩ | ⟨g, cap, cur, rfl, _, hg, hc, hm, hsz, ht⟩
  · have : l = [] := List.eq_nil_of_length_eq_zero h0
    subst this
    exact Lib.run_convert_nil_bytes w _ _ _ 0 Tryd.underlying89 Tryd.underlying5 Tryd.underlying9
  · refine run_convert_bytes_back w _ _ _ ⟨g, 0, none⟩ cap l Tryd.underlying89 Tryd.underlying5 Tryd.underlying9 ?_
    intro j hj
    have hadd : (⟨g, 0, none⟩ : Addr).add j = ⟨g, j, none⟩ := by unfold Addr.add; split <;> simp_all
    rw [hadd, cell_of_row w g j cur _ (0, 0) hg]
    have : (cur.toList.take (l.length * 1))[j]? = some (.int .u8 (l[j].toNat : Int)) := by
      rw [ht]; simp [hj, byteV]
    rw [List.getElem?_take, if_pos (by omega), Array.getElem?_toList] at this
    exact this

/-- The bytes that are known from a place on, at most so many. -/
def knownL (n : Nat) (B : Nat → Nat → Nat) (K : Nat → Nat → Bool) : Nat → Nat → List UInt8
  | 0, _ => []
  | f + 1, p => if p < 191 * n ∧ K (p % n) (p / n) = true then (B (p % n) (p / n)).toUInt8 :: knownL n B K f (p + 1) else []
theorem knownL_len (n : Nat) (B : Nat → Nat → Nat) (K : Nat → Nat → Bool) (f : Nat) : ∀ p, (knownL n B K f p).length ≤ f := by
  induction f with
  | zero => intro p; simp [knownL]
  | succ f ih => intro p; simp only [knownL]; split <;> simp; exact ih _

set_option maxRecDepth 100000 in
set_option maxHeartbeats 400000 in
/-- A place that a table has not. -/
theorem at_none (w : World) (tb n c : Nat) (rb : Option Addr) (p : Nat) (pi : Int) (hpi : pi = p) (hn2 : n ≤ 1024) (hp : 191 * n ≤ p)
    (hr : w.cell? ⟨tb, 0, none⟩ = some (.slice rb n c)) :
    Calls Tryd.prog 12 #[.pointer (some ⟨tb, 0, none⟩), .int .i64 pi] w fun e w' => e = .returned (.tuple #[.int .u8 0, .bool false]) ∧ w' = w := by
  subst hpi
  have h1 : decide ((n : Int) * 191 ≤ (p : Int)) = true := by simp; omega
  go_enter Tryd.func12, Tryd.ntmps12
  go_wp2_with (go_at_call 32; refine (table_data _ _ n c _ hn2 hr).mono ?_; rintro e w' ⟨rfl, rfl⟩)
  go_ret2
  exact ⟨rfl, rfl⟩

set_option maxRecDepth 100000 in
set_option maxHeartbeats 1000000 in
theorem known_any (w : World) (tb rb n p : Nat) (B : Nat → Nat → Nat) (K : Nat → Nat → Bool) (hBb : ∀ r c, B r c < 256) (hn : 0 < n) (hn2 : n ≤ 1024) (hp : p ≤ 1000000)
    (hr : w.cell? ⟨tb, 0, none⟩ = some (.slice (some ⟨rb, 0, none⟩) n n)) (hR : RowsAt w rb n B K) :
    Calls Tryd.prog 30 #[.pointer (some ⟨tb, 0, none⟩), .int .i64 p] w fun e w' => e = .returned (.string ⟨(knownL n B K 4080 p).toArray⟩) ∧ Below w.heap.size w w' := by
  obtain ⟨i0, hi, hz0, hz1, hz2⟩ := info_parts Tryd.infob
  have hlt : tb < w.heap.size := World.block_lt_of_cell? w _ hr
  have HR := Lib.hid hR
  have HBb := Lib.hid hBb
  clear hR hBb
  go_enter Tryd.func30, Tryd.ntmps30
  go_wp2_with fail
  go_loopw [5, 6] (fun v i wr => ∃ (k : Nat) (l : List UInt8), k ≤ 4080 ∧ i = .int .i64 (p + k : Nat) ∧ l.length = k ∧ knownL n B K 4080 p = l ++ knownL n B K (4080 - k) (p + k) ∧ ByteRow wr v l ∧ Below w.heap.size w wr ∧ (∀ k, v.ownBlock = some k → w.heap.size ≤ k)) (fun _ i _ => (p + 4080 - (intOf i).toNat : Nat))
  case atStart => exact ⟨0, [], by omega, rfl, rfl, by simp, ByteRow.nil _, Below.refl _ _, fun k hk => by cases hk⟩
  case round =>
    obtain ⟨k, l, hk, rfl, hl, hkn, hI, hB, hown⟩ := hrel
    have hrr : RowsAt wr rb n B K := HR.out.frm (Frm.of_below hB) (by have := HR.out.lt; omega)
    have hcc : wr.cell? ⟨tb, 0, none⟩ = some (.slice (some ⟨rb, 0, none⟩) n n) := by rw [hB.cell hlt]; exact hr
    have HI := Lib.hid hI
    have HB := Lib.hid hB
    have HO := Lib.hid hown
    have HK := Lib.hid hkn
    have HRR := Lib.hid hrr
    clear hI hB hown hkn hrr
    by_cases hend : k < 4080
    · have d1 : decide (((p + k : Nat) : Int) < (p : Int) + 4080) = true := by simp; omega
      by_cases hin : p + k < 191 * n
      · go_wp2_with fail
        refine (at_any _ tb rb n (p + k) _ rfl B K hn hn2 hin hcc HRR.out).mono ?_
        rintro e w1 ⟨rfl, q, rfl⟩
        cases hK : K ((p + k) % n) ((p + k) / n) with
        | false =>
          have hfin : knownL n B K 4080 p = l := by
            rw [HK.out]
            obtain ⟨f, hf⟩ : ∃ f, 4080 - k = f + 1 := ⟨4080 - k - 1, by omega⟩
            rw [hf, knownL, if_neg (by rw [hK]; simp), List.append_nil]
          have hcv := (HI.out.drewN q).text
          have HF := Lib.hid hfin
          clear hfin hK
          go_wp2_with fail
          go_ret
          refine ⟨?_, HB.out.drewN q⟩
          rw [HF.out]; rfl
        | true =>
          have hstep : knownL n B K (4080 - k) (p + k) = (B ((p + k) % n) ((p + k) / n)).toUInt8 :: knownL n B K (4080 - (k + 1)) (p + (k + 1)) := by
            obtain ⟨f, hf⟩ : ∃ f, 4080 - k = f + 1 := ⟨4080 - k - 1, by omega⟩
            rw [hf, knownL, if_pos ⟨hin, hK⟩, show f = 4080 - (k + 1) by omega]; rfl
          have hx := HBb.out ((p + k) % n) ((p + k) / n)
          generalize B ((p + k) % n) ((p + k) / n) = x at *
          have hxb : byteV x.toUInt8 = .int .u8 (x : Int) := by
            unfold byteV; congr 1
            simp; omega
          have hkn : knownL n B K 4080 p = (l ++ [x.toUInt8]) ++ knownL n B K (4080 - (k + 1)) (p + (k + 1)) := by rw [HK.out, hstep]; simp
          have HK2 := Lib.hid hkn
          have HX := Lib.hid hxb
          have hI2 : ((wr.drewN q).alloc (.cells #[.int .u8 (x : Int)] 5)).ownsRow 0 5 1 u5 l.length (l.map byteV) := World.ownsRow.alloc (HI.out.drewN q) _
          have HI2 := Lib.hid hI2
          have HC0 := Lib.hid (RowAt.new (wr.drewN q) 5 #[.int .u8 (x : Int)])
          clear hstep hkn hxb hI2 hK hx
          go_wp2_with (at_builtin; refine wpList_append_own_at _ rfl _ _ 89 rfl 0 5 i0 (.int .u8 0) 1 1 Tryd.underlying89 hi hz0 hz1 hz2 rfl (by decide) _ _ _ rfl HI2.out ⟨wr.heap.size, 0, none⟩ 1 1 [.int .u8 (x : Int)] rfl rfl ?_ ?_ ?_ ?_ (Nat.zero_le _) ?_)
          case refine_1 => exact cells_one (HC0.out.cell 0)
          case refine_2 => intro u hu; simp at hu; subst hu; rfl
          case refine_3 => unfold maxLen; omega
          case refine_4 => omega
          case refine_5 =>
            intro v' w2 hown1 hgrow _ hloc
            have hI1 : ByteRow w2 v' (l ++ [x.toUInt8]) := by
              unfold ByteRow; rw [List.map_append, List.map_cons, List.map_nil, HX.out, List.length_append, hl]; exact hown1
            have hB1 : Below w.heap.size w w2 := by
              refine ((HB.out.drewN q).alloc HB.out.size _).grown hgrow (by have := HB.out.size; simp; omega) (fun k hk => ?_)
              exact HO.out k hk
            have ho1 : ∀ k, v'.ownBlock = some k → w.heap.size ≤ k := by
              intro k hk
              rcases hloc with h | h
              · exact HO.out k (by rw [← h, hk])
              · rw [h] at hk; cases hk; have := HB.out.size; simp; omega
            clear hown1 hgrow hloc HI2 HC0
            have H1 := Lib.hid hI1
            have H2 := Lib.hid hB1
            have H3 := Lib.hid ho1
            clear hI1 hB1 ho1
            go_wp2_with fail
            go_roundw
            case rel => exact ⟨k + 1, l ++ [x.toUInt8], by omega, by go_num, by simp [hl], HK2.out, H1.out, H2.out, H3.out⟩
            case measure => simp [intOf]; omega
      · go_wp2_with fail
        refine (at_none _ tb n n _ (p + k) _ rfl hn2 (by omega) hcc).mono ?_
        rintro e w1 ⟨rfl, rfl⟩
        have hfin : knownL n B K 4080 p = l := by
          rw [HK.out]
          obtain ⟨f, hf⟩ : ∃ f, 4080 - k = f + 1 := ⟨4080 - k - 1, by omega⟩
          rw [hf, knownL, if_neg (by omega), List.append_nil]
        have hcv := HI.out.text
        have HF := Lib.hid hfin
        clear hfin
        go_wp2_with fail
        go_ret
        refine ⟨?_, HB.out⟩
        rw [HF.out]; rfl
    · have d1 : decide (((p + k : Nat) : Int) < (p : Int) + 4080) = false := by simp; omega
      obtain rfl : k = 4080 := by omega
      have hfin : knownL n B K 4080 p = l := by
        rw [HK.out]; simp [knownL]
      have hcv := HI.out.text
      have HF := Lib.hid hfin
      clear hfin
      go_wp2_with fail
      go_ret
      refine ⟨?_, HB.out⟩
      rw [HF.out]; rfl

end Go.Proofs.YtmfpmgelhhbfiaaDoor
