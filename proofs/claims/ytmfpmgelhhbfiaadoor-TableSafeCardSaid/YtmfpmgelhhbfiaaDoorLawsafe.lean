/- The law TableSafe. -/
import Derived.Test.YtmfpmgelhhbfiaaDoorSent
import Derived.Test.YtmfpmgelhhbfiaaDoorAwake
namespace Go.Proofs.YtmfpmgelhhbfiaaDoor
open Go.RowKit

theorem made_zero (z : Array Value) : madeCells z 0 = #[] := by simp [madeCells]

/-- All columns of parity. -/
def allP : List Int := (List.range 64).map Int.ofNat
theorem allP_in (k : Nat) (h : k < 64) : inB allP k = true := by
  rw [inB_iff]
  exact List.mem_map.2 ⟨k, List.mem_range.2 h, rfl⟩
theorem intRow_args {w : World} {v : Value} {l : List Nat} (h : IntRow w v l) : ArgInts w v (l.map Int.ofNat) := by
  rcases h.2 with ⟨rfl, h0⟩ | ⟨g, cap, cur, rfl, _, hg, hc, hm, _, htk⟩
  · obtain rfl : l = [] := List.eq_nil_of_length_eq_zero h0
    exact ⟨none, 0, rfl, by simp, fun j x hj => by simp at hj⟩
  · refine ⟨_, cap, by rw [List.length_map], by rw [List.length_map]; omega, fun j x hj => ⟨g, 0, rfl, heap_lt hg, ?_⟩⟩
    rw [Nat.zero_add, cell_of_row w g j cur _ (0, 0) hg]
    rw [List.getElem?_map] at hj
    obtain ⟨y, hy, rfl⟩ := Option.map_eq_some_iff.1 hj
    have hlt := (List.getElem?_eq_some_iff.1 hy).1
    have : (cur.toList.take (l.length * 1))[j]? = some (.int .i64 (y : Int)) := by rw [htk, List.getElem?_map, hy]; rfl
    rw [List.getElem?_take, if_pos (by omega), Array.getElem?_toList] at this
    exact this

set_option maxRecDepth 100000 in
theorem safe_pad (ds : List ByteArray) (h : tot ds ≤ 191 * 256) : tot ds ≤ (191 - padN 256 ds) * 256 := by
  unfold padN
  generalize tot ds = t at *
  by_cases h0 : t = 0
  · subst h0; exact Nat.zero_le _
  · rw [if_neg h0]
    have h1 : t ≤ (t - 1) / 256 * 256 + 256 := by omega
    have h2 : (t - 1) / 256 ≤ 190 := by omega
    generalize (t - 1) / 256 = q at *
    rw [show 191 - (190 - q) = q + 1 by omega]; omega

theorem dgm_ok {cap : Nat} {l : List Int} (hlen : l.length ≤ 20) (hsz : ∀ y, y ∈ l → 0 ≤ y ∧ y ≤ 1000) : ∀ d, d ∈ adds cap (dgm l) l.length → checkOf d = 0 ∧ 20 ≤ d.size ∧ d.size ≤ 4080 := by
  intro d hd
  obtain ⟨i, hi, rfl⟩ := adds_mem _ _ _ _ hd
  have hy := hsz l[i] (List.getElem_mem hi)
  have hz := dgm_size l i
  rw [List.getD_eq_getElem?_getD, List.getElem?_eq_getElem hi] at hz
  simp only [Option.getD_some] at hz
  refine ⟨?_, by omega, by omega⟩
  unfold dgm
  rw [List.getD_eq_getElem?_getD, List.getElem?_eq_getElem hi]
  simp only [Option.getD_some]
  exact madeOf_check _ _ (by omega) (by omega)

set_option maxRecDepth 100000 in
set_option maxHeartbeats 8000000 in
theorem law_safe (w : World) (n cols cut : Int) (v vG vP : Value) (l G P : List Int) (pad : Bool) (hl : ArgInts w v l) (hG : ArgInts w vG G) (hP : ArgInts w vP P) (hT : SizesF w 0) (hT2 : SizesAt w 1) :
    Calls Tryd.prog 3 #[cfgV n cols cut, v, lossV vG vP pad] w fun e w' => e = .returned (.bool true) ∧ Below w.heap.size w w' := by
  obtain ⟨i0, hi, hz0, hz1, hz2⟩ := info_parts Tryd.info3
  have hmk : ∀ W : World, (Instr.makeSlice 24 (.int .i64 0) (.int .i64 0)).run Tryd.prog W = .ok (.slice (some ⟨W.heap.size, 0, none⟩) 0 0) (W.alloc (.cells #[] 3)) := by
    intro W
    have := run_make_rowN (P := Tryd.prog) 24 3 i0 (.int .i64 0) Tryd.underlying24 hi hz0 .i64 .i64 0 0 (Nat.le_refl _) (by omega) (by omega) W
    rw [Nat.zero_mul, made_zero] at this
    exact this
  obtain ⟨pa, pc, rfl⟩ : ∃ a m, vP = .slice a P.length m := by obtain ⟨A1, c1, h1, _⟩ := hP; exact ⟨_, _, h1⟩
  obtain ⟨ga, gc, rfl⟩ : ∃ a m, vG = .slice a G.length m := by obtain ⟨A1, c1, h1, _⟩ := hG; exact ⟨_, _, h1⟩
  obtain ⟨la, lc, rfl⟩ : ∃ a m, v = .slice a l.length m := by obtain ⟨A1, c1, h1, _⟩ := hl; exact ⟨_, _, h1⟩
  have hR1 := (RowAt.new w 23 #[.int .i64 n, .int .i64 cols, .int .i64 cut]).alloc (.cells #[.slice ga G.length gc, .slice pa P.length pc, .bool pad] 26)
  have hR2 := RowAt.new (w.alloc (.cells #[.int .i64 n, .int .i64 cols, .int .i64 cut] 23)) 26 #[.slice ga G.length gc, .slice pa P.length pc, .bool pad]
  rw [World.size_alloc] at hR2
  have hW : Below w.heap.size w ((w.alloc (.cells #[.int .i64 n, .int .i64 cols, .int .i64 cut] 23)).alloc (.cells #[.slice ga G.length gc, .slice pa P.length pc, .bool pad] 26)) := ((Below.refl _ _).alloc (Nat.le_refl _) _).alloc (by simp) _
  have HR1 := Lib.hid hR1
  have HR2 := Lib.hid hR2
  have HW := Lib.hid hW
  have HL := Lib.hid hl
  have HG := Lib.hid hG
  have HT := Lib.hid hT
  have HT2 := Lib.hid hT2
  clear hR1 hR2 hW hl hG hP hT hT2
  unfold cfgV lossV
  go_enter Tryd.func3, Tryd.ntmps3
  go_wp2_with fail
  generalize hbx : w.heap.size + 1 = bx at *
  go_loopw [7] (fun i wr => ∃ (k : Nat) (u : Value), k ≤ 64 ∧ i = .int .i64 k ∧ RowAt wr bx 26 #[.slice ga G.length gc, u, .bool pad] ∧ RowAt wr w.heap.size 23 #[.int .i64 n, .int .i64 cols, .int .i64 cut] ∧ IntRow wr u (List.range k) ∧ (∀ b, u.ownBlock = some b → bx < b) ∧ Below w.heap.size w wr) (fun i _ => 64 - (intOf i).toNat)
  case atStart =>
    have hz1' : (w.alloc (.cells #[.int .i64 n, .int .i64 cols, .int .i64 cut] 23)).heap.size = bx := by rw [World.size_alloc]; exact hbx
    have hz2' : ((w.alloc (.cells #[.int .i64 n, .int .i64 cols, .int .i64 cut] 23)).alloc (.cells #[.slice ga G.length gc, .slice (some ⟨bx + 1, 0, none⟩) 0 0, .bool pad] 26)).heap.size = bx + 1 := by rw [World.size_alloc, hz1']
    have r1 := ((RowAt.new (w.alloc (.cells #[.int .i64 n, .int .i64 cols, .int .i64 cut] 23)) 26 #[.slice ga G.length gc, .slice (some ⟨bx + 1, 0, none⟩) 0 0, .bool pad]).alloc (.cells #[] 3))
    rw [hz1'] at r1
    have r2 := World.ownsRow_made (base := 0) (e := 3) (size := 1) ((w.alloc (.cells #[.int .i64 n, .int .i64 cols, .int .i64 cut] 23)).alloc (.cells #[.slice ga G.length gc, .slice (some ⟨bx + 1, 0, none⟩) 0 0, .bool pad] 26)) #[] 0 (Nat.zero_le _) (by unfold maxLen; omega) (by simp)
    rw [hz2'] at r2
    exact ⟨0, .slice (some ⟨bx + 1, 0, none⟩) 0 0, Nat.zero_le _, rfl, r1, ((RowAt.new w _ _).alloc _).alloc _, r2, fun b hb => by cases hb; exact Nat.lt_succ_self _, (((Below.refl _ _).alloc (Nat.le_refl _) _).alloc (by simp) _).alloc (by simp; omega) _⟩
  case round =>
    obtain ⟨k, u, hk, rfl, hR, hC, hI, ho, hB⟩ := hrel
    have c1 : wr.cell? ⟨bx, 1, none⟩ = some u := hR.cell 1
    have f1 := hR.frozen 1
    have hlr : (List.range k).length = k := List.length_range
    obtain ⟨ua, um, rfl⟩ : ∃ a m, u = .slice a k m := by
      rcases hI.2 with ⟨h, h0⟩ | ⟨g, cap, cur, h, _⟩
      · rw [hlr] at h0; exact ⟨_, _, by rw [h, h0]⟩
      · rw [hlr] at h; exact ⟨_, _, h⟩
    have HR := Lib.hid hR
    have HC := Lib.hid hC
    have HI := Lib.hid hI
    have HO := Lib.hid ho
    have HB := Lib.hid hB
    clear hR hC hI ho hB
    by_cases hlt : k < 64
    · have hI2 : (wr.alloc (.cells #[.int .i64 (k : Int)] 3)).ownsRow 0 3 1 (.slice ua k um) (List.range k).length ((List.range k).map fun k : Nat => Value.int .i64 (k : Int)) := World.ownsRow.alloc HI.out _
      have HI2 := Lib.hid hI2
      have HC0 := Lib.hid (RowAt.new wr 3 #[.int .i64 (k : Int)])
      have hru := List.range_succ (n := k)
      have HRU := Lib.hid hru
      clear hI2 hru
      generalize List.range k = R at *
      go_wp2_with (at_builtin; refine wpList_append_own_at _ rfl _ _ 24 rfl 0 3 i0 (.int .i64 0) 1 8 Tryd.underlying24 hi hz0 hz1 hz2 rfl (by decide) _ _ _ rfl HI2.out ⟨wr.heap.size, 0, none⟩ 1 1 [.int .i64 (k : Int)] rfl rfl ?_ ?_ ?_ ?_ (Nat.zero_le _) ?_)
      case refine_1 => exact cells_one (HC0.out.cell 0)
      case refine_2 => intro u hu; simp at hu; subst hu; rfl
      case refine_3 => unfold maxLen; omega
      case refine_4 => omega
      case refine_5 =>
        intro v' w3 hown1 hgrow _ hloc
        obtain ⟨g', cap', hv', _, _⟩ := hown1.form (by omega)
        have hF3 : Frm (fun b => (Value.slice ua k um).ownBlock = some b) wr w3 := ((Frm.refl _ wr).alloc _).step (Frm.of_grown hgrow) (fun k _ h => h)
        have hnb : ∀ b, b ≤ bx → ¬ (Value.slice ua k um).ownBlock = some b := fun b hb h => by have := HO.out b h; omega
        have hR3 := HR.out.frm hF3 (hnb _ (Nat.le_refl _))
        have hC3 := HC.out.frm hF3 (hnb _ (by omega))
        have k1 : w3.cell? ⟨bx, 1, none⟩ = some (.slice ua k um) := hR3.cell 1
        have k2 := hR3.frozen 1
        have hI3 : IntRow w3 v' (R ++ [k]) := by
          unfold IntRow; rw [List.map_append, List.length_append, hlr]; exact hown1
        have ho3 : ∀ b, v'.ownBlock = some b → bx < b := by
          intro b hb
          rcases hloc with h | h
          · exact HO.out b (by rw [← h, hb])
          · rw [h] at hb; cases hb; have := HR.out.lt; simp; omega
        have hB3 := hF3.below HB.out.size (fun b hb => hnb b (by omega))
        have HR3 := Lib.hid (hR3.setCell 1 v')
        have HC3 := Lib.hid (hC3.setOther (p := ⟨bx, 1, none⟩) (by show w.heap.size ≠ bx; omega) v')
        have HI3 := Lib.hid (hI3.frm ((Frm.refl (· = bx) w3).setCell (p := ⟨bx, 1, none⟩) (fun _ => rfl) v') (fun b hb e => by have := ho3 b hb; omega))
        have HO3 := Lib.hid ho3
        have HB3 := Lib.hid ((HB.out.trans hB3).setCell (p := ⟨bx, 1, none⟩) (by show w.heap.size ≤ bx; omega) v')
        subst hv'
        clear hown1 hgrow hloc hF3 hnb hR3 hC3 hI3 ho3 hB3 HI2 HC0
        go_wp2_with fail
        go_roundw
        case rel => exact ⟨k + 1, _, by omega, by go_num, HR3.out, HC3.out, by rw [HRU.out]; exact HI3.out, HO3.out, HB3.out⟩
        case measure => simp [intOf]; omega
    · obtain rfl : k = 64 := by omega
      have hAP : ArgInts wr (.slice ua 64 um) allP := intRow_args HI.out
      have HAP := Lib.hid hAP
      have hsz := HB.out.size
      have hsure := sure_calls wr n cols cut (.slice la l.length lc) (.slice ga G.length gc) (.slice ua 64 um) l G allP pad (HL.out.below HB.out) (HG.out.below HB.out) hAP (SizesAt.below HT.out HB.out (sizes_lt HT.out))
      unfold cfgV lossV at hsure
      have HSU := Lib.hid hsure
      have hRC : wr.cell? ⟨w.heap.size, 0, none⟩ = some (.int .i64 n) ∧ wr.cell? ⟨w.heap.size, 1, none⟩ = some (.int .i64 cols) ∧ wr.cell? ⟨w.heap.size, 2, none⟩ = some (.int .i64 cut) := ⟨HC.out.cell 0, HC.out.cell 1, HC.out.cell 2⟩
      have hRL : wr.cell? ⟨bx, 0, none⟩ = some (.slice ga G.length gc) ∧ wr.cell? ⟨bx, 2, none⟩ = some (.bool pad) := ⟨HR.out.cell 0, HR.out.cell 2⟩
      obtain ⟨q0, q1, q2⟩ := hRC
      obtain ⟨p0, p2⟩ := hRL
      clear hAP hsure hmk hi hz0 hz1 hz2 hlr
      go_wp2_with fail
      refine HSU.out.mono ?_
      rintro e w1 ⟨rfl, hB1⟩
      have HB1 := Lib.hid (HB.out.trans (hB1.mono hsz))
      have HR1b := Lib.hid (HR.out.frm (Frm.of_below hB1) (by have := HR.out.lt; omega))
      have HC1b := Lib.hid (HC.out.frm (Frm.of_below hB1) (by have := HC.out.lt; omega))
      have HAP1 := Lib.hid (HAP.out.below hB1)
      clear hB1 q0 q1 q2 p0 p2 c1 f1 HSU
      cases hs : sureB n cols cut l G allP with
      | false =>
        go_wp2_with fail
        refine (awake_calls _ (HT2.out.below HB1.out (sizes_lt HT2.out))).mono ?_
        rintro e w2 ⟨rfl, hB2⟩
        have HB2 := Lib.hid (HB1.out.trans (hB2.mono HB1.out.size))
        clear hB2
        go_wp2_with fail
        go_ret
        exact ⟨rfl, HB2.out⟩
      | true =>
        obtain ⟨s1, s2, s3, s4, s5, s6⟩ := sureB_ok hs
        obtain ⟨t1, t2, t3, t4, t5⟩ := cfgB_ok s2
        subst s3
        obtain ⟨cn, rfl⟩ := Int.eq_ofNat_of_zero_le (show 0 ≤ cols by omega)
        obtain ⟨un, rfl⟩ := Int.eq_ofNat_of_zero_le t4
        have hsent := sent_calls w1 cn un (.slice la l.length lc) (.slice ga G.length gc) (.slice ua 64 um) l G allP pad (HL.out.below HB1.out) (HG.out.below HB1.out) HAP1.out (SizesAt.below HT.out HB1.out (sizes_lt HT.out)) (HT2.out.below HB1.out (sizes_lt HT2.out)) s2 s4 s1 allP_in
        unfold cfgV lossV at hsent
        have HSE := Lib.hid hsent
        obtain ⟨q0, q1, q2⟩ : w1.cell? ⟨w.heap.size, 0, none⟩ = some (.int .i64 256) ∧ w1.cell? ⟨w.heap.size, 1, none⟩ = some (.int .i64 cn) ∧ w1.cell? ⟨w.heap.size, 2, none⟩ = some (.int .i64 un) := ⟨HC1b.out.cell 0, HC1b.out.cell 1, HC1b.out.cell 2⟩
        obtain ⟨p0, p1, p2⟩ : w1.cell? ⟨bx, 0, none⟩ = some (.slice ga G.length gc) ∧ w1.cell? ⟨bx, 1, none⟩ = some (.slice ua 64 um) ∧ w1.cell? ⟨bx, 2, none⟩ = some (.bool pad) := ⟨HR1b.out.cell 0, HR1b.out.cell 1, HR1b.out.cell 2⟩
        clear hsent t1 hs
        go_wp2_with fail
        refine HSE.out.mono ?_
        rintro e w2 ⟨fb, tb, rfl, hFT⟩
        have hds : ∀ d, d ∈ adds (256 * cn) (dgm l) l.length → checkOf d = 0 ∧ 20 ≤ d.size ∧ d.size ≤ 4080 := dgm_ok s4 s1
        have htot := adds_tot (256 * cn) (dgm l) l.length
        have hal := adds_len (256 * cn) (dgm l) l.length
        have hkp : keptOf cn l G = keep G 0 (plc 0 (adds (256 * cn) (dgm l) l.length)) := rfl
        rw [hkp] at hFT
        generalize adds (256 * cn) (dgm l) l.length = ds at *
        have HFT := Lib.hid hFT
        obtain ⟨S1, hFA, _, _⟩ := hFT.frame
        have HFA := Lib.hid hFA
        clear hFT hFA hkp q0 q1 q2 p0 p1 p2 HSE
        go_wp2_with fail
        refine (placed_calls HFA.out).mono ?_
        rintro e w3 ⟨u, rfl, hP3, hB3, hu3⟩
        have hpl := plc_len ds 0
        obtain ⟨xa, xm, rfl⟩ : ∃ a m, u = .slice a (plc 0 ds).length m := by
          rcases hP3.2 with ⟨h, h0⟩ | ⟨g, cap, cur, h, _⟩
          · exact ⟨_, _, by rw [h, h0]⟩
          · exact ⟨_, _, h⟩
        have hch : Chain (tot ds) 0 (keep G 0 (plc 0 ds)) := keep_chain G ds 0 0 (tot ds) hds (by omega)
        have hpad := safe_pad ds (by omega)
        have hout : ∀ r, OutFrom 256 (tabB 256 (keep G 0 (plc 0 ds))) (if pad = true then padK (padN 256 ds) (tabK 256 (keep G 0 (plc 0 ds))) else tabK 256 (keep G 0 (plc 0 ds))) ((keep G 0 (plc 0 ds)).map (·.1)) 0 r → r = keep G 0 (plc 0 ds) :=
          fun r h => out_chain (by omega) hch (by omega) pad hpad h
        have hle : ∀ q, q ∈ (keep G 0 (plc 0 ds)).map (·.1) → q ≤ 191 * 256 := by
          intro q hq
          obtain ⟨e, he, rfl⟩ := List.mem_map.1 hq
          have := (hch.mem he).2.1
          omega
        have HOUT := Lib.hid hout
        have HLE := Lib.hid hle
        have HFT3 := Lib.hid (HFT.out.below hB3)
        have HP3 := Lib.hid hP3
        have hwb := HFT3.out.bel.size
        have HU3 := Lib.hid hu3
        obtain ⟨S2, hTA, _, _, _⟩ := HFT3.out.table
        have HTA := Lib.hid hTA
        have hBt := tabB_lt 256 (keep G 0 (plc 0 ds))
        have HBT := Lib.hid hBt
        clear hds hch hpad hout hle hP3 hB3 hu3 hTA hBt HFA HFT
        generalize hL : plc 0 ds = L at *
        have HLL := Lib.hid hL
        clear hL
        go_wp2_with fail
        refine (out_table HTA.out HBT.out HLE.out).mono ?_
        rintro e w4 ⟨o, r, rfl, hO, hPo, _, hB4, ho4⟩
        obtain rfl := HOUT.out r hO
        have hP4 : FPlaced w4 (.slice xa L.length xm) L := HP3.out.frm (Frm.of_below hB4) (fun k hk h => by have := HP3.out.lt k hk; omega)
        have hbx4 : w4.cell? ⟨bx, 0, none⟩ = some (.slice ga G.length gc) := by
          rw [hB4.cell (Nat.lt_of_lt_of_le HR1b.out.lt hwb), HFT3.out.bel.cell HR1b.out.lt]; exact HR1b.out.cell 0
        have hB4w : Below w.heap.size w w4 := (HB1.out.trans (HFT3.out.bel.mono HB1.out.size)).trans (hB4.mono (by have := HB1.out.size; omega))
        have hG4 : ArgInts w4 (.slice ga G.length gc) G := HG.out.below hB4w
        have hin := fun (q k : Nat) => in_calls (w4.drewN q) (.slice ga G.length gc) G (hG4.below ((Below.refl _ _).drewN q)) k
        have HIN := Lib.hid hin
        have HP4 := Lib.hid hP4
        have HPO := Lib.hid hPo
        have HB4 := Lib.hid hB4w
        obtain ⟨oa, oc, rfl⟩ : ∃ a m, o = .slice a (keep G 0 L).length m := by
          rcases hPo.2 with ⟨h, h0⟩ | ⟨g, cap, cur, h, _⟩
          · exact ⟨_, _, by rw [h, h0]⟩
          · exact ⟨_, _, h⟩
        have hkl := keep_len G L 0
        clear hP4 hPo hO hB4 ho4 hB4w hG4 hin HOUT HLE HTA HBT HFT3 HP3 HU3 HB1 HR1b HC1b HAP1 HAP HI HR HC HO HB
        go_wp2_with fail
        go_loopw [13, 14] (fun m i W => ∃ k q : Nat, k ≤ L.length ∧ i = .int .i64 k ∧ m = .int .i64 ((keep G 0 (L.take k)).length : Nat) ∧ W = w4.drewN q) (fun _ i _ => L.length - (intOf i).toNat)
        case atStart => exact ⟨0, 0, Nat.zero_le _, rfl, rfl, rfl⟩
        case round =>
          obtain ⟨k, q, hk, rfl, rfl, rfl⟩ := hrel
          by_cases hlt : k < L.length
          · have hkt := keep_take (G := G) hlt
            have h1 := HIN.out q k
            cases hk2 : inB G k with
            | true =>
              rw [hk2] at h1
              have hmem : (k : Int) ∈ G := inB_iff.1 hk2
              rw [if_pos hmem, List.append_nil] at hkt
              have H1 := Lib.hid h1
              have HKT := Lib.hid hkt
              clear h1 hkt hk2 hmem
              go_wp2_with fail
              refine H1.out.mono ?_
              rintro e W2 ⟨rfl, rfl⟩
              go_wp2_with fail
              go_roundw
              case rel => exact ⟨k + 1, q, by omega, by go_num, by rw [HKT.out], rfl⟩
              case measure => simp [intOf]; omega
            | false =>
              rw [hk2] at h1
              have hmem : ¬ (k : Int) ∈ G := fun h => by rw [← inB_iff, hk2] at h; cases h
              rw [if_neg hmem] at hkt
              have hget := keep_get hlt hmem
              have hml : (keep G 0 (L.take k)).length < (keep G 0 L).length := (List.getElem?_eq_some_iff.1 hget).1
              obtain ⟨g, rfl, hg1, hg2⟩ : ∃ g, xa = some ⟨g, 0, none⟩ ∧ w4.cell? ⟨g, k * 2, none⟩ = some (.int .i64 (L[k].1 : Nat)) ∧ w4.cell? ⟨g, k * 2 + 1, none⟩ = some (.string L[k].2) := by
                rcases HP4.out.2 with ⟨h, h0⟩ | ⟨g, cap, cur, h, _, hg, _, _, _, htk⟩
                · omega
                · injection h with h1 h2 h3
                  have hcc : ∀ j v, j < 2 → (placedCells L)[k * 2 + j]? = some v → w4.cell? ⟨g, k * 2 + j, none⟩ = some v := by
                    intro j v hj hv
                    rw [cell_of_row w4 g _ cur _ (0, 0) hg]
                    rw [← htk, List.getElem?_take, if_pos (by omega), Array.getElem?_toList] at hv
                    exact hv
                  have hpc := placedCells_get hlt
                  exact ⟨g, h1, hcc 0 _ (by omega) hpc.1, hcc 1 _ (by omega) hpc.2⟩
              obtain ⟨og, rfl, ho1, ho2⟩ : ∃ og, oa = some ⟨og, 0, none⟩ ∧ w4.cell? ⟨og, (keep G 0 (L.take k)).length * 2, none⟩ = some (.int .i64 (L[k].1 : Nat)) ∧ w4.cell? ⟨og, (keep G 0 (L.take k)).length * 2 + 1, none⟩ = some (.string L[k].2) := by
                rcases HPO.out.2 with ⟨h, h0⟩ | ⟨g, cap, cur, h, _, hg, _, _, _, htk⟩
                · omega
                · injection h with h1 h2 h3
                  have hcc : ∀ j v, j < 2 → (placedCells (keep G 0 L))[(keep G 0 (L.take k)).length * 2 + j]? = some v → w4.cell? ⟨g, (keep G 0 (L.take k)).length * 2 + j, none⟩ = some v := by
                    intro j v hj hv
                    rw [cell_of_row w4 g _ cur _ (0, 0) hg]
                    rw [← htk, List.getElem?_take, if_pos (by omega), Array.getElem?_toList] at hv
                    exact hv
                  have hpc := placedCells_get hml
                  rw [show (keep G 0 L)[(keep G 0 (L.take k)).length] = L[k] from Option.some.inj ((List.getElem?_eq_getElem hml).symm.trans hget)] at hpc
                  exact ⟨g, h1, hcc 0 _ (by omega) hpc.1, hcc 1 _ (by omega) hpc.2⟩
              have H1 := Lib.hid h1
              have HKT := Lib.hid hkt
              have g1 : decide ((keep G 0 L).length ≤ (keep G 0 (L.take k)).length) = false := by simpa using hml
              have hml2 : (keep G 0 (L.take k)).length ≤ 100 := by omega
              clear h1 hkt hk2 hmem hget
              generalize L[k].1 = a at *
              generalize L[k].2 = d at *
              generalize hM : (keep G 0 (L.take k)).length = M at *
              generalize hN2 : (keep G 0 L).length = N2 at *
              have HM := Lib.hid hM
              have HN2 := Lib.hid hN2
              clear hM hN2
              have j1 : (k : Int) < (L.length : Int) := by omega
              have j2 : (M : Int) < (N2 : Int) := by omega
              go_wp2_with fail
              refine H1.out.mono ?_
              rintro e W2 ⟨rfl, rfl⟩
              go_wp2_with fail
              go_quiet (fail)
              go_wp2_with fail
              go_roundw
              case rel => exact ⟨k + 1, _, by omega, by go_num, by rw [HKT.out, List.length_append, HM.out]; go_num, rfl⟩
              case measure => simp [intOf]; omega
          · obtain rfl : k = L.length := by omega
            rw [List.take_length]
            have hT2 := fun W hB => HT2.out.below (w' := W) hB (sizes_lt HT2.out)
            have HTT := Lib.hid (hT2 _ (HB4.out.drewN q))
            have HB5 := Lib.hid (HB4.out.drewN q)
            clear hT2
            generalize (keep G 0 L).length = N2 at *
            have g1 : ((N2 : Int) == (N2 : Int)) = true := by simp
            go_wp2_with fail
            refine (awake_calls _ HTT.out).mono ?_
            rintro e W3 ⟨rfl, hB6⟩
            have HB6 := Lib.hid (HB5.out.trans (hB6.mono HB5.out.size))
            clear hB6
            go_wp2_with fail
            go_ret
            exact ⟨rfl, HB6.out⟩
end Go.Proofs.YtmfpmgelhhbfiaaDoor
