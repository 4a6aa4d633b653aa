/- The law's sent: a frame, and what a table has of it. -/
import Derived.Test.YtmfpmgelhhbfiaaDoorSure
import Derived.Test.YtmfpmgelhhbfiaaDoorMadp
import Derived.Deep.RegionHeld3
namespace Go.Proofs.YtmfpmgelhhbfiaaDoor
open Go.RowKit

/-- A frame and a table of 256 rows, both made since w0, apart; X: blocks beside them. -/
def FT (w0 w : World) (fb tb cols cut : Nat) (ds : List ByteArray) (B : Nat → Nat → Nat) (K : Nat → Nat → Bool) (l : List Nat) (X : Nat → Prop) : Prop :=
  ∃ S1 S2, FrameAt w fb 256 cols cut ds S1 ∧ TableAt w tb 256 B K l S2 ∧ (∀ k, S1 k → ¬ S2 k) ∧ Below w0.heap.size w0 w ∧ (∀ k, S1 k → w0.heap.size ≤ k) ∧ (∀ k, S2 k → w0.heap.size ≤ k) ∧ ∀ k, X k → ¬ S1 k ∧ ¬ S2 k ∧ k < w.heap.size

section
variable {w0 w w' : World} {fb tb cols cut : Nat} {ds : List ByteArray} {B : Nat → Nat → Nat} {K : Nat → Nat → Bool} {l : List Nat} {X : Nat → Prop}
theorem FT.bel (h : FT w0 w fb tb cols cut ds B K l X) : Below w0.heap.size w0 w := let ⟨_, _, _, _, _, h, _⟩ := h; h
theorem FT.below (h : FT w0 w fb tb cols cut ds B K l X) (hb : Below w.heap.size w w') : FT w0 w' fb tb cols cut ds B K l X := by
  obtain ⟨S1, S2, h1, h2, h3, h4, h5, h6, h7⟩ := h
  exact ⟨S1, S2, h1.below hb, h2.below hb, h3, h4.trans (hb.mono h4.size), h5, h6, fun k hk => ⟨(h7 k hk).1, (h7 k hk).2.1, Nat.lt_of_lt_of_le (h7 k hk).2.2 hb.size⟩⟩
theorem FT.base {w1 : World} (h : FT w0 w fb tb cols cut ds B K l X) (hb : Below w1.heap.size w1 w0) : FT w1 w fb tb cols cut ds B K l X := by
  obtain ⟨S1, S2, h1, h2, h3, h4, h5, h6, h7⟩ := h
  have hz := hb.size
  exact ⟨S1, S2, h1, h2, h3, hb.trans (h4.mono hz), fun k hk => by have := h5 k hk; omega, fun k hk => by have := h6 k hk; omega, h7⟩
theorem FT.newX (h : FT w0 w fb tb cols cut ds B K l X) (hb : Below w.heap.size w w') (Y : Nat → Prop) (hY : ∀ k, Y k → w.heap.size ≤ k ∧ k < w'.heap.size) : FT w0 w' fb tb cols cut ds B K l Y := by
  obtain ⟨S1, S2, h1, h2, h3, h4, h5, h6, _⟩ := h
  refine ⟨S1, S2, h1.below hb, h2.below hb, h3, h4.trans (hb.mono h4.size), h5, h6, fun k hk => ?_⟩
  obtain ⟨g1, g2⟩ := hY k hk
  exact ⟨fun hs => by have := h1.foot k hs; omega, fun hs => by have := h2.foot k hs; omega, g2⟩
theorem FT.frame (h : FT w0 w fb tb cols cut ds B K l X) : ∃ S, FrameAt w fb 256 cols cut ds S ∧ (∀ w' ds', FrameTurned w fb 256 cols cut ds' S w' → FT w0 w' fb tb cols cut ds' B K l X) ∧
    ∀ w' (Y : Nat → Prop), FrameAt w' fb 256 cols cut ds S → Frm S w w' → (∀ k, Y k → w.heap.size ≤ k ∧ k < w'.heap.size) → FT w0 w' fb tb cols cut ds B K l Y := by
  obtain ⟨S1, S2, h1, h2, h3, h4, h5, h6, h7⟩ := h
  refine ⟨S1, h1, fun w' ds' ⟨S', g1, g2, g3⟩ => ⟨S', S2, g1, h2.frm g2 (fun k hk hs => h3 k hs hk), fun k hk hs => ?_, h4.trans (g2.below h4.size (fun k hk hs => by have := h5 k hs; omega)), fun k hk => ?_, h6, fun k hk => ⟨fun hs => ?_, (h7 k hk).2.1, g2.lt (h7 k hk).2.2⟩⟩,
    fun w' Y g1 g2 hY => ⟨S1, S2, g1, h2.frm g2 (fun k hk hs => h3 k hs hk), h3, h4.trans (g2.below h4.size (fun k hk hs => by have := h5 k hs; omega)), h5, h6, fun k hk => ?_⟩⟩
  · rcases g3 k hk with h | h
    · exact h3 k h hs
    · have := h2.foot k hs; omega
  · rcases g3 k hk with h | h
    · exact h5 k h
    · have := h4.size; omega
  · rcases g3 k hs with h | h
    · exact (h7 k hk).1 h
    · have := (h7 k hk).2.2; omega
  · obtain ⟨y1, y2⟩ := hY k hk
    exact ⟨fun hs => by have := h1.foot k hs; omega, fun hs => by have := h2.foot k hs; omega, y2⟩
theorem FT.table (h : FT w0 w fb tb cols cut ds B K l X) : ∃ S, TableAt w tb 256 B K l S ∧ (∀ k, X k → ¬ S k) ∧ (∀ k, S k → w0.heap.size ≤ k) ∧ ∀ w' B' K' l', (∃ S', TableAt w' tb 256 B' K' l' S' ∧ Frm S w w' ∧ Fresh w S S') → FT w0 w' fb tb cols cut ds B' K' l' X := by
  obtain ⟨S1, S2, h1, h2, h3, h4, h5, h6, h7⟩ := h
  refine ⟨S2, h2, fun k hk => (h7 k hk).2.1, h6, fun w' B' K' l' ⟨S', g1, g2, g3⟩ => ⟨S1, S', h1.frm g2 (fun k hk hs => h3 k hk hs), g1, fun k hk hs => ?_, h4.trans (g2.below h4.size (fun k hk hs => by have := h6 k hs; omega)), h5, fun k hk => ?_, fun k hk => ⟨(h7 k hk).1, fun hs => ?_, g2.lt (h7 k hk).2.2⟩⟩⟩
  · rcases g3 k hs with h | h
    · exact h3 k hk h
    · have := h1.foot k hk; omega
  · rcases g3 k hk with h | h
    · exact h6 k h
    · have := h4.size; omega
  · rcases g3 k hs with h | h
    · exact (h7 k hk).2.1 h
    · have := (h7 k hk).2.2; omega
end

theorem placedCells_get {l : List (Nat × ByteArray)} : ∀ {k : Nat} (h : k < l.length), (placedCells l)[k * 2 + 0]? = some (.int .i64 (l[k].1 : Nat)) ∧ (placedCells l)[k * 2 + 1]? = some (.string l[k].2) := by
  induction l with
  | nil => intro k h; simp at h
  | cons a l ih =>
    intro k h
    cases k with
    | zero => exact ⟨rfl, rfl⟩
    | succ k =>
      have := ih (k := k) (by simpa using h)
      have e : placedCells (a :: l) = [Value.int .i64 (a.1 : Int), Value.string a.2] ++ placedCells l := rfl
      rw [e, List.getElem?_append_right (by simp; omega), List.getElem?_append_right (by simp; omega)]
      simp only [List.length_cons, List.length_nil, List.getElem_cons_succ]
      rw [show (k + 1) * 2 + 0 - (0 + 1 + 1) = k * 2 + 0 by omega, show (k + 1) * 2 + 1 - (0 + 1 + 1) = k * 2 + 1 by omega]
      exact this

theorem plc_take : ∀ (ds : List ByteArray) (a k : Nat) (h : k < (plc a ds).length), (plc a ds)[k].2 ∈ ds ∧ a ≤ (plc a ds)[k].1 ∧ (plc a ds)[k].1 + (plc a ds)[k].2.size ≤ a + tot ds ∧ ∀ e, e ∈ (plc a ds).take k → e.1 + e.2.size ≤ (plc a ds)[k].1 := by
  intro ds
  induction ds with
  | nil => intro a k h; simp [plc] at h
  | cons d ds ih =>
    intro a k h
    rw [tot_cons]
    cases k with
    | zero => simp [plc]
    | succ k =>
      have hk : k < (plc (a + d.size) ds).length := by simpa [plc] using h
      obtain ⟨h1, h2, h3, h4⟩ := ih (a + d.size) k hk
      simp only [plc, List.getElem_cons_succ, List.take_succ_cons]
      refine ⟨by simp [h1], by omega, by omega, fun e he => ?_⟩
      rcases List.mem_cons.1 he with rfl | he
      · exact h2
      · exact h4 e he
theorem keep_mem {G : List Int} {e : Nat × ByteArray} : ∀ {L : List (Nat × ByteArray)} {i : Nat}, e ∈ keep G i L → e ∈ L := by
  intro L
  induction L with
  | nil => intro i h; cases h
  | cons a L ih =>
    intro i h
    simp only [keep] at h
    split at h
    · exact List.mem_cons_of_mem _ (ih h)
    · rcases List.mem_cons.1 h with rfl | h
      · exact List.mem_cons_self
      · exact List.mem_cons_of_mem _ (ih h)

/-- The datagrams that the law makes. -/
def dgm (l : List Int) (k : Nat) : ByteArray := madeOf (l.getD k 0).toNat k
theorem dgm_size (l : List Int) (k : Nat) : (dgm l k).size = 20 + (l.getD k 0).toNat := madeOf_size _ _

/-- What a table has of a frame. -/
def keptOf (cols : Nat) (l G : List Int) : List (Nat × ByteArray) := keep G 0 (plc 0 (adds (256 * cols) (dgm l) l.length))
def SentPost (w : World) (cols cut : Nat) (l G : List Int) (pad : Bool) (e : Ending) (w' : World) : Prop :=
  ∃ fb tb, e = .returned (.tuple #[.pointer (some ⟨fb, 0, none⟩), .pointer (some ⟨tb, 0, none⟩), .bool true]) ∧
    FT w w' fb tb cols cut (adds (256 * cols) (dgm l) l.length) (tabB 256 (keptOf cols l G)) (if pad = true then padK (padN 256 (adds (256 * cols) (dgm l) l.length)) (tabK 256 (keptOf cols l G)) else tabK 256 (keptOf cols l G)) ((keptOf cols l G).map (·.1)) (fun _ => False)

set_option maxRecDepth 100000 in
set_option maxHeartbeats 8000000 in
theorem sent_calls (w : World) (cols cut : Nat) (v vG vP : Value) (l G P : List Int) (pad : Bool) (hl : ArgInts w v l) (hG : ArgInts w vG G) (hP : ArgInts w vP P) (hT : SizesF w 0) (hT2 : SizesAt w 1)
    (hok : cfgB 256 cols cut = true) (hlen : l.length ≤ 20) (hsz : ∀ y, y ∈ l → 0 ≤ y ∧ y ≤ 1000) (hall : ∀ k : Nat, k < 64 → inB P k = true) :
    Calls Tryd.prog 7 #[cfgV 256 cols cut, v, lossV vG vP pad] w (SentPost w cols cut l G pad) := by
  have hW : Below w.heap.size w ((w.alloc (.cells #[.int .i64 256, .int .i64 cols, .int .i64 cut] 23)).alloc (.cells #[vG, vP, .bool pad] 26)) := ((Below.refl _ _).alloc (Nat.le_refl _) _).alloc (by simp) _
  have hR1 := (RowAt.new w 23 #[.int .i64 256, .int .i64 cols, .int .i64 cut]).alloc (.cells #[vG, vP, .bool pad] 26)
  have hR2 := RowAt.new (w.alloc (.cells #[.int .i64 256, .int .i64 cols, .int .i64 cut] 23)) 26 #[vG, vP, .bool pad]
  rw [World.size_alloc] at hR2
  have HR1 := Lib.hid hR1
  have HR2 := Lib.hid hR2
  have HTF := Lib.hid (SizesAt.below hT hW (sizes_lt hT))
  have HTT := Lib.hid (SizesAt.below hT2 hW (sizes_lt hT2))
  have HG := Lib.hid (hG.below hW)
  have HP := Lib.hid (hP.below hW)
  obtain ⟨A, c, rfl, hll, hcl⟩ := hl.below hW
  unfold maxLen at hll
  have HCL := Lib.hid hcl
  have HSZ := Lib.hid hsz
  have HALL := Lib.hid hall
  have HWB := Lib.hid hW
  have hF := fun W h => fnew_calls W 256 cols cut hok h
  rw [show ((256 : Nat) : Int) = 256 from rfl] at hF
  have HF := Lib.hid hF
  have hN := fun W h => new_any W 256 (by decide) h
  rw [show ((256 : Nat) : Int) = 256 from rfl] at hN
  have HN := Lib.hid hN
  obtain ⟨_, k2, k3, k4, k5⟩ := cfgB_ok hok
  clear hW hR1 hR2 hT hT2 hG hP hl hcl hsz hall hF hN hok
  unfold cfgV lossV
  have hsl : (∃ a m, vG = .slice a G.length m) ∧ ∃ a m, vP = .slice a P.length m := by
    obtain ⟨A1, c1, h1, _⟩ := HG.out
    obtain ⟨A2, c2, h2, _⟩ := HP.out
    exact ⟨⟨_, _, h1⟩, ⟨_, _, h2⟩⟩
  obtain ⟨⟨ga, gc, rfl⟩, ⟨pa, pc, rfl⟩⟩ := hsl
  go_enter Tryd.func7, Tryd.ntmps7
  go_wp2_with fail
  generalize ((w.alloc (.cells #[.int .i64 256, .int .i64 cols, .int .i64 cut] 23)).alloc (.cells #[.slice ga G.length gc, .slice pa P.length pc, .bool pad] 26)) = W at *
  refine (HF.out _ HTF.out).mono ?_
  rintro e w1 ⟨fb, S1, rfl, hFA, hB1, hS1⟩
  have d0 : w1.cell? ⟨w.heap.size, 0, none⟩ = some (.int .i64 256) := (HR1.out.frm (Frm.of_below hB1) (by have := HR1.out.lt; omega)).cell 0
  have HFA := Lib.hid hFA
  have HB1 := Lib.hid hB1
  have HS1 := Lib.hid hS1
  have HTT1 := Lib.hid (HTT.out.below hB1 (sizes_lt HTT.out))
  clear hFA hB1 hS1
  go_wp2_with fail
  refine (HN.out _ HTT1.out).mono ?_
  rintro e w2 ⟨tb, S2, rfl, hTA, hB2, hS2⟩
  have hFT : FT W w2 fb tb cols cut (adds (256 * cols) (dgm l) 0) (fun _ _ => 0) (fun _ _ => false) [] (fun _ => False) :=
    ⟨S1, S2, HFA.out.below hB2, hTA, fun k h1 h2 => by have := HFA.out.foot k h1; have := hS2 k h2; omega, HB1.out.trans (hB2.mono HB1.out.size), HS1.out, fun k hk => by have := hS2 k hk; have := HB1.out.size; omega, fun k hk => hk.elim⟩
  have HFT := Lib.hid hFT
  clear hTA hB2 hS2 hFT HFA HS1 HTT1 HF HN d0
  go_wp2_with fail
  go_loopw [13] (fun i wr => ∃ k : Nat, k ≤ l.length ∧ i = .int .i64 k ∧ FT W wr fb tb cols cut (adds (256 * cols) (dgm l) k) (fun _ _ => 0) (fun _ _ => false) [] (fun _ => False)) (fun i _ => l.length - (intOf i).toNat)
  case atStart => exact ⟨0, Nat.zero_le _, rfl, HFT.out⟩
  case round =>
    obtain ⟨k, hk, rfl, hI⟩ := hrel
    have HI := Lib.hid hI
    clear hI
    by_cases hlt : k < l.length
    · obtain ⟨b, off, rfl, h1, h2⟩ := HCL.out k _ (List.getElem?_eq_getElem hlt)
      have h3 : wr.cell? ⟨b, off + k, none⟩ = some (.int .i64 l[k]) := by rw [HI.out.bel.cell h1]; exact h2
      have hy := HSZ.out l[k] (List.getElem_mem hlt)
      have hd : dgm l k = madeOf l[k].toNat k := by unfold dgm; rw [List.getD_eq_getElem?_getD, List.getElem?_eq_getElem hlt]; rfl
      have hmk := fun W => made_calls W l[k] l[k].toNat k (by omega) (by omega) (by omega)
      rw [← hd] at hmk
      have hdz : (dgm l k).size = 20 + l[k].toNat := by rw [hd, madeOf_size]
      have hdc : checkOf (dgm l k) = 0 := by rw [hd]; exact madeOf_check _ _ (by omega) (by omega)
      have hstep : adds (256 * cols) (dgm l) (k + 1) = if tot (adds (256 * cols) (dgm l) k) + (dgm l k).size ≤ 256 * cols then adds (256 * cols) (dgm l) k ++ [dgm l k] else adds (256 * cols) (dgm l) k := rfl
      have hal := adds_len (256 * cols) (dgm l) k
      have HMK := Lib.hid hmk
      have HDC := Lib.hid hdc
      have HST := Lib.hid hstep
      clear hmk hdc hstep hd h2
      generalize dgm l k = d at *
      generalize l[k] = y at *
      generalize adds (256 * cols) (dgm l) k = ds at *
      go_wp2_with fail
      refine (HMK.out _).mono ?_
      rintro e w3 ⟨rfl, hB3⟩
      have HI3 := Lib.hid (HI.out.below hB3)
      clear hB3
      obtain ⟨S, hA, hnext, _⟩ := HI3.out.frame
      have HA := Lib.hid hA
      have HNX := Lib.hid hnext
      clear hA hnext
      go_wp2_with fail
      by_cases hfit : tot ds + d.size ≤ 256 * cols
      · have hst := HST.out
        rw [if_pos hfit] at hst
        have HS2 := Lib.hid hst
        clear hst
        refine (add_ok HA.out d HDC.out hfit (by omega)).mono ?_
        rintro e w4 ⟨rfl, hT4⟩
        have H4 := Lib.hid (HNX.out _ _ hT4)
        clear hT4
        go_wp2_with fail
        go_roundw
        case rel => exact ⟨k + 1, by omega, by go_num, by rw [HS2.out]; exact H4.out⟩
        case measure => simp [intOf]; omega
      · have hst := HST.out
        rw [if_neg hfit] at hst
        have HS2 := Lib.hid hst
        clear hst
        refine (add_full HA.out d HDC.out (by omega) (by omega)).mono ?_
        rintro e w4 ⟨rfl, hB4⟩
        have H4 := Lib.hid (HI3.out.below hB4)
        clear hB4
        go_wp2_with fail
        go_roundw
        case rel => exact ⟨k + 1, by omega, by go_num, by rw [HS2.out]; exact H4.out⟩
        case measure => simp [intOf]; omega
    · obtain rfl : k = l.length := by omega
      have hadd : ∀ d, d ∈ adds (256 * cols) (dgm l) l.length → checkOf d = 0 ∧ 20 ≤ d.size ∧ d.size ≤ 4080 := by
        intro d hd
        obtain ⟨i, hi, rfl⟩ := adds_mem _ _ _ _ hd
        have hy := HSZ.out l[i] (List.getElem_mem hi)
        have hz := dgm_size l i
        rw [List.getD_eq_getElem?_getD, List.getElem?_eq_getElem hi] at hz
        simp only [Option.getD_some] at hz
        refine ⟨?_, by omega, by omega⟩
        unfold dgm
        rw [List.getD_eq_getElem?_getD, List.getElem?_eq_getElem hi]
        simp only [Option.getD_some]
        exact madeOf_check _ _ (by omega) (by omega)
      have htot := adds_tot (256 * cols) (dgm l) l.length
      have hal := adds_len (256 * cols) (dgm l) l.length
      have HKP := Lib.hid (show keptOf cols l G = keep G 0 (plc 0 (adds (256 * cols) (dgm l) l.length)) from rfl)
      have HADD := Lib.hid hadd
      have HKC := Lib.hid (fun i => keep_chain G (adds (256 * cols) (dgm l) l.length) 0 i (256 * cols) hadd (by omega))
      clear hadd
      generalize hds : adds (256 * cols) (dgm l) l.length = ds at *
      have HDS := Lib.hid hds
      clear hds
      obtain ⟨S, hA, _, _⟩ := HI.out.frame
      have HA := Lib.hid hA
      clear hA
      go_wp2_with fail
      refine (placed_calls HA.out).mono ?_
      rintro e w3 ⟨u, rfl, hPl, hB3, hown⟩
      have hpl := plc_len ds 0
      have hI3 : FT W w3 fb tb cols cut ds (tabB 256 (keep G 0 ((plc 0 ds).take 0))) (tabK 256 (keep G 0 ((plc 0 ds).take 0))) ((keep G 0 ((plc 0 ds).take 0)).map (·.1)) (fun k => u.ownBlock = some k) :=
        HI.out.newX hB3 _ (fun k hk => ⟨hown k hk, hPl.lt k hk⟩)
      have HI3 := Lib.hid hI3
      have HPl := Lib.hid hPl
      have hsl : ∃ a m, u = .slice a (plc 0 ds).length m := by
        rcases hPl.2 with ⟨h, h0⟩ | ⟨g, cap, cur, h, _⟩
        · exact ⟨_, _, by rw [h, h0]⟩
        · exact ⟨_, _, h⟩
      obtain ⟨ua, um, rfl⟩ := hsl
      clear hB3 hI3 hPl hown HA
      generalize hL : plc 0 ds = L at *
      have HL := Lib.hid hL
      clear hL
      go_wp2_with fail
      go_loopw [15] (fun i wr => ∃ k : Nat, k ≤ L.length ∧ i = .int .i64 k ∧ FT W wr fb tb cols cut ds (tabB 256 (keep G 0 (L.take k))) (tabK 256 (keep G 0 (L.take k))) ((keep G 0 (L.take k)).map (·.1)) (fun k => (Value.slice ua L.length um).ownBlock = some k) ∧ FPlaced wr (.slice ua L.length um) L) (fun i _ => L.length - (intOf i).toNat)
      case atStart => exact ⟨0, Nat.zero_le _, rfl, HI3.out, HPl.out⟩
      case round =>
        obtain ⟨k, hk, rfl, hI4, hPl4⟩ := hrel
        have hd := hI4.below ((Below.refl _ wr).drew)
        have hx0 : wr.cell? ⟨w.heap.size + 1, 0, none⟩ = some (.slice ga G.length gc) := by rw [hI4.bel.cell HR2.out.lt]; exact HR2.out.cell 0
        have hin := fun W' (hb : Below wr.heap.size wr W') => in_calls W' (.slice ga G.length gc) G ((HG.out.below hI4.bel).below hb) k
        have HI4 := Lib.hid hI4
        have HP4 := Lib.hid hPl4
        clear hI4 hPl4
        by_cases hlt : k < L.length
        · have hkt := keep_take (G := G) hlt
          obtain ⟨g, rfl, hg1, hg2⟩ : ∃ g, ua = some ⟨g, 0, none⟩ ∧ wr.cell? ⟨g, k * 2, none⟩ = some (.int .i64 (L[k].1 : Nat)) ∧ wr.cell? ⟨g, k * 2 + 1, none⟩ = some (.string L[k].2) := by
            rcases HP4.out.2 with ⟨h, h0⟩ | ⟨g, cap, cur, h, _, hg, _, _, _, htk⟩
            · omega
            · injection h with h1 h2 h3
              have hcc : ∀ j v, j < 2 → (placedCells L)[k * 2 + j]? = some v → wr.cell? ⟨g, k * 2 + j, none⟩ = some v := by
                intro j v hj hv
                rw [cell_of_row wr g _ cur _ (0, 0) hg]
                rw [← htk, List.getElem?_take, if_pos (by omega), Array.getElem?_toList] at hv
                exact hv
              have hpc := placedCells_get hlt
              exact ⟨g, h1, hcc 0 _ (by omega) hpc.1, hcc 1 _ (by omega) hpc.2⟩
          have HKT := Lib.hid hkt
          clear hkt
          cases hk2 : inB G k with
          | true =>
            rw [hk2] at hin
            have HIN := Lib.hid hin
            have hmem : (k : Int) ∈ G := inB_iff.1 hk2
            have hkt2 := HKT.out
            rw [if_pos hmem, List.append_nil] at hkt2
            have HK2 := Lib.hid hkt2
            clear hin hkt2 hk2 hmem hd
            go_wp2_with fail
            go_quiet ((go_at_call 10; exact Calls.quiet_of_same (HIN.out _ ((Below.refl _ _).drewN _))))
            go_wp2_with fail
            go_roundw
            case rel => exact ⟨k + 1, by omega, by go_num, by rw [HK2.out]; exact HI4.out.below ((Below.refl _ _).drewN _), HP4.out⟩
            case measure => simp [intOf]; omega
          | false =>
            rw [hk2] at hin
            have HIN := Lib.hid hin
            have hmem : ¬ (k : Int) ∈ G := fun h => by rw [← inB_iff, hk2] at h; cases h
            have hkt2 := HKT.out
            rw [if_neg hmem] at hkt2
            have HK2 := Lib.hid hkt2
            have hpt := plc_take ds 0 k (by rw [HL.out]; exact hlt)
            simp only [HL.out] at hpt
            obtain ⟨t1, t2, t3, t4⟩ := hpt
            obtain ⟨a1, a2, a3⟩ := HADD.out _ t1
            have hbig : ∀ x, x ∈ (keep G 0 (L.take k)).map (·.1) → x < L[k].1 := by
              intro x hx
              obtain ⟨e, he, rfl⟩ := List.mem_map.1 hx
              have hm := keep_mem he
              have h1 := t4 e hm
              have h2 : 20 ≤ e.2.size := by
                obtain ⟨j, hj, hje⟩ := List.mem_iff_getElem.1 (List.mem_of_mem_take hm)
                have := (plc_take ds 0 j (by rw [HL.out]; exact hj)).1
                simp only [HL.out] at this
                rw [hje] at this
                exact (HADD.out _ this).2.1
              omega
            have hfewl : ((keep G 0 (L.take k)).map (·.1)).length + 1 < 1000000 := by
              rw [List.length_map]
              have h1 := keep_len G (L.take k) 0
              have h2 : (L.take k).length ≤ L.length := by rw [List.length_take]; omega
              omega
            have hse := toList_isEmpty (s := L[k].2) (by omega)
            have hk3 : tabB 256 (keep G 0 (L.take (k + 1))) = putB 256 L[k].1 L[k].2.size (sb L[k].2) (tabB 256 (keep G 0 (L.take k))) ∧ tabK 256 (keep G 0 (L.take (k + 1))) = putK 256 L[k].1 L[k].2.size (tabK 256 (keep G 0 (L.take k))) ∧ (keep G 0 (L.take (k + 1))).map (·.1) = (keep G 0 (L.take k)).map (·.1) ++ [L[k].1] := by
              rw [HK2.out, tabB_snoc, tabK_snoc, List.map_append]
              exact ⟨rfl, rfl, rfl⟩
            have HK3 := Lib.hid hk3
            obtain ⟨S, hTA, hXS, hS0, hTn⟩ := hd.table
            have hput := put_table hTA L[k].1 L[k].2 _ rfl (by omega) (by omega) hfewl hbig hse
            have hpl5 : ∀ w', Frm S wr.drew w' → FPlaced w' (.slice (some ⟨g, 0, none⟩) L.length um) L := fun w' hf => HP4.out.frm (w' := w') ⟨hf.os, hf.tape, hf.output, hf.size, hf.block⟩ (fun k hk => hXS k hk)
            have hkeep : ∀ w', Frm S wr.drew w' → w'.cell? ⟨w.heap.size + 1, 0, none⟩ = some (.slice ga G.length gc) ∧ w'.cell? ⟨g, k * 2, none⟩ = some (.int .i64 (L[k].1 : Nat)) ∧ w'.cell? ⟨g, k * 2 + 1, none⟩ = some (.string L[k].2) := by
              intro w' hf
              have hb1 := World.block_lt_of_cell? wr _ hx0
              have hb2 := World.block_lt_of_cell? wr _ hg1
              have hn1 : ¬ S (w.heap.size + 1) := fun h => by have := hS0 _ h; have := HR2.out.lt; omega
              have hn2 : ¬ S g := hXS g rfl
              exact ⟨(hf.cell hb1 hn1).trans hx0, (hf.cell hb2 hn2).trans hg1, (hf.cell hb2 hn2).trans hg2⟩
            have HKEEP := Lib.hid hkeep
            have HPUT := Lib.hid hput
            have HTN := Lib.hid hTn
            have HP5 := Lib.hid hpl5
            clear hin hkt2 hk2 hmem hd t1 t2 t3 t4 a1 a2 a3 hbig hfewl hse hk3 hTA hXS hTn hput hpl5 HK2 hkeep hS0
            generalize tabB 256 (keep G 0 (L.take k)) = B0 at *
            generalize tabK 256 (keep G 0 (L.take k)) = K0 at *
            generalize (keep G 0 (L.take k)).map (·.1) = l0 at *
            generalize L[k].1 = pa2 at *
            generalize L[k].2 = pd2 at *
            have j1 : (k : Int) < (L.length : Int) := by omega
            go_wp2_with fail
            go_region_held3 (fun W => W.cell? ⟨w.heap.size + 1, 0, none⟩ = some (.slice ga G.length gc) ∧ W.cell? ⟨g, k * 2, none⟩ = some (.int .i64 (pa2 : Nat)) ∧ W.cell? ⟨g, k * 2 + 1, none⟩ = some (.string pd2))
              (first | exact ⟨hx0, hg1, hg2⟩ | exact hs5 | assumption | go_keep)
              (first | (go_at_call 10; refine (HIN.out _ ((Below.refl _ wr).drew)).mono ?_; rintro e w5 ⟨rfl, rfl⟩) | (go_at_call 16; refine HPUT.out.mono ?_; rintro e w5 ⟨rfl, htt⟩; have hs5 := HKEEP.out _ htt.choose_spec.2.1))
            have hp5 := HP5.out _ htt.choose_spec.2.1
            have hf5 := HTN.out _ _ _ _ htt
            have H5 := Lib.hid hp5
            have H6 := Lib.hid hf5
            clear hp5 hf5 htt hs5
            go_wp2_with fail
            go_roundw
            case rel => exact ⟨k + 1, by omega, by go_num, by rw [HK3.out.1, HK3.out.2.1, HK3.out.2.2]; exact H6.out, H5.out⟩
            case measure => simp [intOf]; omega
        · obtain rfl : k = L.length := by omega
          rw [List.take_length] at HI4
          obtain ⟨S, hA, _, hkeepF⟩ := HI4.out.frame
          have HA := Lib.hid hA
          have HKF := Lib.hid hkeepF
          have hsz4 := HI4.out.bel.size
          clear hA hkeepF hin hd
          go_wp2_with fail
          refine (parity_calls HA.out).mono ?_
          rintro e w5 ⟨m, rfl, hM, hMo, hA5, hF5⟩
          have h5 := HKF.out w5 (fun k => m.ownBlock = some k) hA5 hF5 (fun k hk => ⟨hMo k hk, hM.lt k hk⟩)
          obtain ⟨ma, mc, rfl, hmc⟩ := hM.slice
          rw [parL_len] at *
          have hx1 : w5.cell? ⟨w.heap.size + 1, 1, none⟩ = some (.slice pa P.length pc) := by rw [h5.bel.cell HR2.out.lt]; exact HR2.out.cell 1
          have hx2 : w5.cell? ⟨w.heap.size + 1, 2, none⟩ = some (.bool pad) := by rw [h5.bel.cell HR2.out.lt]; exact HR2.out.cell 2
          have hin := fun k => in_calls w5 (.slice pa P.length pc) P (HP.out.below h5.bel) k
          have HIN := Lib.hid hin
          have H5 := Lib.hid h5
          clear hin h5 hM hMo hA5 hF5 hx0
          go_wp2_with fail
          go_loopw [17] (fun i wr => ∃ k : Nat, k ≤ 64 - cut ∧ i = .int .i64 k ∧ wr = w5) (fun i _ => 64 - (intOf i).toNat)
          case atStart => exact ⟨0, Nat.zero_le _, rfl, rfl⟩
          case round =>
            obtain ⟨k, hk, rfl, rfl⟩ := hrel
            by_cases hlt : k < 64 - cut
            · have ha := HALL.out k (by omega)
              have h1 := HIN.out k
              rw [ha] at h1
              have HI1 := Lib.hid h1
              have g1 : decide (k < 64 - cut) = true := by simpa using hlt
              clear ha h1
              go_wp2_with fail
              refine HI1.out.mono ?_
              rintro e w6 ⟨rfl, rfl⟩
              go_wp2_with fail
              go_roundw
              case rel => exact ⟨k + 1, by omega, by go_num, trivial⟩
              case measure => simp [intOf]; omega
            · obtain rfl : k = 64 - cut := by omega
              have g1 : decide (64 - cut < 64 - cut) = false := by simp
              have hk2 : keptOf cols l G = keep G 0 L := HKP.out
              have HK2 := Lib.hid hk2
              clear hk2
              cases pad with
              | false =>
                go_wp2_with fail
                go_ret3
                refine ⟨fb, tb, rfl, ?_⟩
                rw [HK2.out, HDS.out]
                obtain ⟨S1, S2, a1, a2, a3, a4, a5, a6, _⟩ := H5.out.base HWB.out
                exact ⟨S1, S2, a1, a2, a3, a4, a5, a6, fun k hk => hk.elim⟩
              | true =>
                obtain ⟨S, hA, _, _⟩ := H5.out.frame
                have HA := Lib.hid hA
                clear hA
                go_wp2_with fail
                refine (padding_calls HA.out).mono ?_
                rintro e w6 ⟨rfl, q, rfl⟩
                obtain ⟨S2, hT, _, _, hTn⟩ := (H5.out.below ((Below.refl _ _).drewN q)).table
                have HT := Lib.hid hT
                have HTN := Lib.hid hTn
                clear hT hTn
                go_wp2_with fail
                refine (pad_table HT.out (padN 256 ds) _ rfl (padN_le _ _)).mono ?_
                rintro e w7 ⟨rfl, htt⟩
                have H7 := Lib.hid (HTN.out _ _ _ _ htt)
                clear htt
                go_wp2_with fail
                go_ret3
                refine ⟨fb, tb, rfl, ?_⟩
                rw [HK2.out, HDS.out]
                obtain ⟨S1, S2, a1, a2, a3, a4, a5, a6, _⟩ := H7.out.base HWB.out
                exact ⟨S1, S2, a1, a2, a3, a4, a5, a6, fun k hk => hk.elim⟩
end Go.Proofs.YtmfpmgelhhbfiaaDoor
