/- What a table tells. -/
import Derived.Test.YtmfpmgelhhbfiaaDoorFirst
namespace Go.Proofs.YtmfpmgelhhbfiaaDoor
open Go.RowKit

theorem Tryd.infop : (Tryd.prog.info? 39).map (fun i => (i.zero, i.size, i.bytes)) = some (some (.agg #[.int .i64 0, .string ⟨#[]⟩]), 2, 24) := by kernel_rfl

def placedCells (l : List (Nat × ByteArray)) : List Value := l.flatMap fun x => [Value.int .i64 (x.1 : Int), Value.string x.2]
theorem placedCells_len (l : List (Nat × ByteArray)) : (placedCells l).length = l.length * 2 := by
  induction l with
  | nil => rfl
  | cons a l ih => simp [placedCells, List.flatMap_cons] at ih ⊢; omega
/-- A row of placed datagrams that a call owns. -/
def PlacedRow (w : World) (v : Value) (l : List (Nat × ByteArray)) : Prop := w.ownsRow 0 39 2 v l.length (placedCells l)
theorem PlacedRow.frm {S : Nat → Prop} {w w' : World} {v : Value} {l : List (Nat × ByteArray)} (h : PlacedRow w v l) (f : Frm S w w') (hs : ∀ k, v.ownBlock = some k → ¬ S k) : PlacedRow w' v l := by
  refine ⟨h.1, ?_⟩
  rcases h.2 with hn | ⟨g, cap, cur, rfl, hb, hgg, rest⟩
  · exact .inl hn
  · exact .inr ⟨g, cap, cur, rfl, hb, f.heap hgg (hs g rfl), rest⟩
theorem PlacedRow.nil (w : World) : PlacedRow w (.slice none 0 0) [] := World.ownsRow_nil w 0 _ 2
theorem PlacedRow.lt {w : World} {v : Value} {l : List (Nat × ByteArray)} (h : PlacedRow w v l) : ∀ k, v.ownBlock = some k → k < w.heap.size := fun k hk => (World.ownsRow.lt h k hk).2

/-- The first start behind a place. -/
def nextStart (l : List Nat) (p : Nat) : Option Nat := l[l.countP (· < p + 1)]?

/-- What is told from a place on. -/
inductive OutFrom (n : Nat) (B : Nat → Nat → Nat) (K : Nat → Nat → Bool) (l : List Nat) : Nat → List (Nat × ByteArray) → Prop
  | told (p : Nat) (s : ByteArray) (r : List (Nat × ByteArray)) : firstOf ⟨(knownL n B K 4080 p).toArray⟩ = some s → OutFrom n B K l (p + s.size) r → OutFrom n B K l p ((p, s) :: r)
  | next (p q : Nat) (r : List (Nat × ByteArray)) : firstOf ⟨(knownL n B K 4080 p).toArray⟩ = none → nextStart l p = some q → OutFrom n B K l q r → OutFrom n B K l p r
  | stop (p : Nat) : firstOf ⟨(knownL n B K 4080 p).toArray⟩ = none → nextStart l p = none → OutFrom n B K l p []

theorem first_size {s x : ByteArray} (h : firstOf s = some x) : 20 ≤ x.size ∧ x.size ≤ s.size := by
  unfold firstOf at h
  have hk := @peekOf_ok s
  generalize peekOf s = p at *
  unfold fst at h
  split at h
  · cases h
  · rename_i h0
    obtain ⟨k1, k2, k3, k4, k5⟩ := hk rfl (by omega)
    split at h
    · cases h
    · split at h
      · cases h
      · cases h
        simp
        omega

theorem mk_size (l : List UInt8) : (⟨l.toArray⟩ : ByteArray).size = l.length := by show l.toArray.size = _; simp

theorem cells_two {w : World} {a : Nat} {x y : Value} (h : w.cell? ⟨a, 0, none⟩ = some x) (h' : w.cell? ⟨a, 1, none⟩ = some y) : ∀ j u, [x, y][j]? = some u → w.cell? ((⟨a, 0, none⟩ : Addr).add j) = some u := by
  intro j u hj
  match j, hj with
  | 0, hj => simp at hj; subst hj; exact h
  | 1, hj => simp at hj; subst hj; exact h'
  | j + 2, hj => simp at hj

/-- Known bytes lie in the table. -/
theorem knownL_in (n : Nat) (B : Nat → Nat → Nat) (K : Nat → Nat → Bool) (f : Nat) : ∀ p, p + (knownL n B K f p).length ≤ max p (191 * n) := by
  induction f with
  | zero => intro p; simp [knownL]; omega
  | succ f ih =>
    intro p
    simp only [knownL]
    split
    · have := ih (p + 1); simp; omega
    · simp; omega

theorem nextStart_gt {l : List Nat} {p q : Nat} (hs : l.Pairwise (· < ·)) (h : nextStart l p = some q) : p < q ∧ q ∈ l := by
  unfold nextStart at h
  refine ⟨?_, List.mem_of_getElem? h⟩
  induction l with
  | nil => simp at h
  | cons a l ih =>
    rw [List.pairwise_cons] at hs
    by_cases ha : a < p + 1
    · rw [List.countP_cons_of_pos (by simpa using ha)] at h
      exact ih hs.2 (by simpa using h)
    · have h0 : l.countP (· < p + 1) = 0 := by
        rw [List.countP_eq_zero]
        intro x hx; have := hs.1 x hx; simp; omega
      rw [List.countP_cons_of_neg (by simpa using ha), h0] at h
      simp at h; omega

/-- The result of Out: a new row. -/
def OutPost (w : World) (n : Nat) (B : Nat → Nat → Nat) (K : Nat → Nat → Bool) (l : List Nat) (e : Ending) (w' : World) : Prop :=
  ∃ v r, e = .returned v ∧ OutFrom n B K l 0 r ∧ PlacedRow w' v r ∧ r.length ≤ 200000 ∧ Below w.heap.size w w' ∧ (∀ k, v.ownBlock = some k → w.heap.size ≤ k)

def FrOut (tb : Nat) (v : Value) (p : Nat) (a : Act) : Prop := ∃ (u5 u6 u7 u8 u9 u10 u11 u12 u13 u14 u15 u16 u17 u18 u19 u20 u21 u22 u23 u24 u25 u26 u27 u28 u29 u30 u31 u32 u33 u34 u35 u36 u37 u38 u39 u40 u41 u42 u43 u44 u45 u46 u47 u48 u49 u50 u51 u52 u53 : Value), a = { tmps := #[.pointer (some ⟨tb, 0, none⟩), undef, .slice none 0 0, v, .int .i64 p, u5, u6, u7, u8, u9, u10, u11, u12, u13, u14, u15, u16, u17, u18, u19, u20, u21, u22, u23, u24, u25, u26, u27, u28, u29, u30, u31, u32, u33, u34, u35, u36, u37, u38, u39, u40, u41, u42, u43, u44, u45, u46, u47, u48, u49, u50, u51, u52, u53], defers := [] }

set_option maxRecDepth 100000 in
set_option maxHeartbeats 2000000 in
theorem out_any (w : World) (tb rb n : Nat) (v0 : Value) (B : Nat → Nat → Nat) (K : Nat → Nat → Bool) (l : List Nat) (hBb : ∀ r c, B r c < 256) (hn : 0 < n) (hn2 : n ≤ 1024)
    (hr : w.cell? ⟨tb, 0, none⟩ = some (.slice (some ⟨rb, 0, none⟩) n n)) (hv : w.cell? ⟨tb, 1, none⟩ = some v0) (hR : RowsAt w rb n B K) (hI : IntRow w v0 l) (hs : l.Pairwise (· < ·)) (hl : l.length < 1000000) (hlt : ∀ q, q ∈ l → q ≤ 191 * n) :
    Calls Tryd.prog 9 #[.pointer (some ⟨tb, 0, none⟩)] w (OutPost w n B K l) := by
  obtain ⟨i0, hi, hz0, hz1, hz2⟩ := info_parts Tryd.infop
  have htb : tb < w.heap.size := World.block_lt_of_cell? w _ hr
  have HR := Lib.hid hR
  have HI := Lib.hid hI
  have HBb := Lib.hid hBb
  have HLT := Lib.hid hlt
  clear hR hI hBb hlt
  have hsl : ∃ a c, v0 = .slice a l.length c := by
    rcases HI.out.2 with ⟨h, h0⟩ | ⟨g, cap, cur, h, _⟩
    · exact ⟨none, 0, by rw [h, h0]⟩
    · exact ⟨_, _, h⟩
  obtain ⟨sa, sc, rfl⟩ := hsl
  go_enter Tryd.func9, Tryd.ntmps9
  go_wp2_with fail
  refine wp_scope_one 0 rfl (fun a' w' => ∃ (p : Nat) (v : Value) (out : List (Nat × ByteArray)), p ≤ 191 * n ∧ FrOut tb v p a' ∧ (∀ r, OutFrom n B K l p r → OutFrom n B K l 0 (out ++ r)) ∧ out.length ≤ p ∧ PlacedRow w' v out ∧ Below w.heap.size w w' ∧ (∀ k, v.ownBlock = some k → w.heap.size ≤ k)) (fun a' _ => 191 * n - (intOf (a'.tmps.getD 4 undef)).toNat) ?_ ?_
  · rintro a' w' ⟨p, v, out, hp, ⟨u5, u6, u7, u8, u9, u10, u11, u12, u13, u14, u15, u16, u17, u18, u19, u20, u21, u22, u23, u24, u25, u26, u27, u28, u29, u30, u31, u32, u33, u34, u35, u36, u37, u38, u39, u40, u41, u42, u43, u44, u45, u46, u47, u48, u49, u50, u51, u52, u53, rfl⟩, hO, hol, hP, hB, hown⟩
    have hrr : RowsAt w' rb n B K := HR.out.frm (Frm.of_below hB) (by have := HR.out.lt; omega)
    have hcc : w'.cell? ⟨tb, 0, none⟩ = some (.slice (some ⟨rb, 0, none⟩) n n) := by rw [hB.cell htb]; exact hr
    have hcv : w'.cell? ⟨tb, 1, none⟩ = some (.slice sa l.length sc) := by rw [hB.cell htb]; exact hv
    have hII : IntRow w' (.slice sa l.length sc) l := HI.out.frm (Frm.of_below hB) (fun k hk h => by have := HI.out.lt k hk; omega)
    have HRR := Lib.hid hrr
    have HII := Lib.hid hII
    have HO := Lib.hid hO
    have HP := Lib.hid hP
    have HB := Lib.hid hB
    have HW := Lib.hid hown
    clear hrr hII hO hP hB hown
    go_wp2_with fail
    refine (known_any _ tb rb n p B K HBb.out hn hn2 (by omega) hcc HRR.out).mono ?_
    rintro e w1 ⟨rfl, hB1⟩
    have hb1 := hB1
    have HB1 := Lib.hid hB1
    clear hB1
    go_wp2_with fail
    refine (first_calls _ _ (by rw [mk_size]; have := knownL_len n B K 4080 p; omega)).mono ?_
    rintro e w2 ⟨rfl, hB2⟩
    have HB2 := Lib.hid (hb1.trans (hB2.mono hb1.size))
    clear hB2 hb1
    have htb' : tb < w'.heap.size := Nat.lt_of_lt_of_le htb HB.out.size
    have hcv2 : w2.cell? ⟨tb, 1, none⟩ = some (.slice sa l.length sc) := by rw [HB2.out.cell htb']; exact hcv
    have hII2 : IntRow w2 (.slice sa l.length sc) l := HII.out.frm (Frm.of_below HB2.out) (fun k hk h => by have := HII.out.lt k hk; omega)
    have hPP2 : PlacedRow w2 v out := HP.out.frm (Frm.of_below HB2.out) (fun k hk h => by have := HP.out.lt k hk; omega)
    have HII2 := Lib.hid hII2
    have HPP2 := Lib.hid hPP2
    clear hII2 hPP2
    cases hF : firstOf ⟨(knownL n B K 4080 p).toArray⟩ with
    | none =>
      have HF := Lib.hid hF
      clear hF
      simp only [firstV]
      go_wp2_with fail
      refine (search_calls _ _ l (p + 1) _ (by omega) HII2.out hs hl).mono ?_
      rintro e w3 ⟨rfl, q, rfl⟩
      cases hN : nextStart l p with
      | none =>
        have hge : l.length ≤ l.countP (· < p + 1) := List.getElem?_eq_none_iff.1 hN
        have d1 : decide (l.countP (· < p + 1) < l.length) = false := by simpa using hge
        have HN := Lib.hid hN
        clear hN hge
        generalize l.countP (· < p + 1) = cnt at *
        go_wp2_with fail
        refine jumps_ret ?_
        go_ret
        exact ⟨v, out, rfl, by have := HO.out _ (.stop p HF.out HN.out); simpa using this, HPP2.out, by omega, (HB.out.trans (HB2.out.mono HB.out.size)).drewN q, HW.out⟩
      | some r =>
        have hlt : l.countP (· < p + 1) < l.length := (List.getElem?_eq_some_iff.1 hN).1
        have hgt := nextStart_gt hs hN
        have hle := HLT.out r hgt.2
        have HN := Lib.hid hN
        have HG := Lib.hid hgt.1
        have hget : l[l.countP (· < p + 1)]? = some r := hN
        have d1 : decide (l.countP (· < p + 1) < l.length) = true := by simpa using hlt
        generalize l.countP (· < p + 1) = cnt at *
        have hcell : ∃ g, sa = some ⟨g, 0, none⟩ ∧ (w2.drewN q).cell? ⟨g, cnt, none⟩ = some (.int .i64 (r : Int)) := by
          rcases HII2.out.2 with ⟨h, h0⟩ | ⟨g, cap, cur, h, _, hg, _, _, _, htk⟩
          · omega
          · injection h with h1 h2 h3
            refine ⟨g, h1, ?_⟩
            rw [World.cell?_drewN, cell_of_row w2 g cnt cur _ (0, 0) hg]
            have : (cur.toList.take (l.length * 1))[cnt]? = some (.int .i64 (r : Int)) := by rw [htk, List.getElem?_map, hget]; rfl
            rw [List.getElem?_take, if_pos (by omega), Array.getElem?_toList] at this
            exact this
        obtain ⟨g, rfl, hcell⟩ := hcell
        rw [World.cell?_drewN] at hcell
        clear hN hgt hget
        go_wp2_with fail
        go_step3
        refine ⟨rfl, ⟨r, v, out, hle, ⟨_, _, _, _, _, _, _, _, _, _, _, _, _, _, _, _, _, _, _, _, _, _, _, _, _, _, _, _, _, _, _, _, _, _, _, _, _, _, _, _, _, _, _, _, _, _, _, _, _, rfl⟩, fun r' hr' => HO.out _ (.next p r r' HF.out HN.out hr'), by have := HG.out; omega, HPP2.out, (HB.out.trans (HB2.out.mono HB.out.size)).drewN q, HW.out⟩, ?_⟩
        have := HG.out
        simp [intOf]; omega
    | some x =>
      have hfs := first_size hF
      have hin := knownL_in n B K 4080 p
      have hsz := mk_size (knownL n B K 4080 p)
      have hx1 : 20 ≤ x.size := hfs.1
      have hx2 : p + x.size ≤ 191 * n := by omega
      have HF := Lib.hid hF
      have hI2 : (w2.alloc (.cells #[.int .i64 (p : Int), .string x] 39)).ownsRow 0 39 2 v out.length (placedCells out) := World.ownsRow.alloc HPP2.out _
      have HI2 := Lib.hid hI2
      have HC0 := Lib.hid (RowAt.new w2 39 #[.int .i64 (p : Int), .string x])
      clear hF hfs hin hI2 hsz
      simp only [firstV]
      go_wp2_with (at_builtin; refine wpList_append_own_at _ rfl _ _ 35 rfl 0 39 i0 (.agg #[.int .i64 0, .string ⟨#[]⟩]) 2 24 Tryd.underlying35 hi hz0 hz1 hz2 rfl (by decide) _ _ _ rfl HI2.out ⟨w2.heap.size, 0, none⟩ 1 1 [.int .i64 (p : Int), .string x] rfl rfl ?_ ?_ ?_ ?_ (Nat.zero_le _) ?_)
      case refine_1 => exact cells_two (HC0.out.cell 0) (HC0.out.cell 1)
      case refine_2 =>
        intro u hu
        simp at hu
        rcases hu with rfl | rfl <;> rfl
      case refine_3 => unfold maxLen; omega
      case refine_4 => omega
      case refine_5 =>
        intro v' w3 hown1 hgrow _ hloc
        have hI1 : PlacedRow w3 v' (out ++ [(p, x)]) := by
          unfold PlacedRow placedCells
          rw [List.flatMap_append, List.length_append]; exact hown1
        have hB1 : Below w.heap.size w w3 := by
          have hb := HB.out.trans (HB2.out.mono HB.out.size)
          refine (hb.alloc hb.size _).grown hgrow (by have := hb.size; simp; omega) (fun k hk => ?_)
          exact HW.out k hk
        have ho1 : ∀ k, v'.ownBlock = some k → w.heap.size ≤ k := by
          intro k hk
          rcases hloc with h | h
          · exact HW.out k (by rw [← h, hk])
          · rw [h] at hk; cases hk; have := HB.out.size; have := HB2.out.size; simp; omega
        clear hown1 hgrow hloc HI2 HC0
        have H1 := Lib.hid hI1
        have H2 := Lib.hid hB1
        have H3 := Lib.hid ho1
        clear hI1 hB1 ho1
        go_wp2_with fail
        go_step3
        refine ⟨rfl, ⟨p + x.size, v', out ++ [(p, x)], hx2, ⟨_, _, _, _, _, _, _, _, _, _, _, _, _, _, _, _, _, _, _, _, _, _, _, _, _, _, _, _, _, _, _, _, _, _, _, _, _, _, _, _, _, _, _, _, _, _, _, _, _, rfl⟩, fun r' hr' => ?_, by simp; omega, H1.out, H2.out, H3.out⟩, ?_⟩
        · rw [List.append_assoc]; exact HO.out _ (.told p x r' HF.out hr')
        · simp [intOf]; omega
  · intro hJ
    have HJ := Lib.hid hJ
    clear hJ
    go_wp2_with fail
    go_step3
    go_step
    go_step
    exact HJ.out _ _ ⟨0, _, [], by omega, ⟨_, _, _, _, _, _, _, _, _, _, _, _, _, _, _, _, _, _, _, _, _, _, _, _, _, _, _, _, _, _, _, _, _, _, _, _, _, _, _, _, _, _, _, _, _, _, _, _, _, rfl⟩, fun r hr => hr, by simp, PlacedRow.nil _, Below.refl _ _, fun k hk => by cases hk⟩

end Go.Proofs.YtmfpmgelhhbfiaaDoor
