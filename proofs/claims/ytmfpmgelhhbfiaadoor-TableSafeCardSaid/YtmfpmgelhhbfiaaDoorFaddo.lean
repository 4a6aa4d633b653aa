/- A datagram is added to a frame that has room. -/
import Derived.Test.YtmfpmgelhhbfiaaDoorFadd
import Derived.Deep.RegionHeld3
namespace Go.Proofs.YtmfpmgelhhbfiaaDoor
open Go.RowKit

set_option maxRecDepth 100000 in
set_option maxHeartbeats 4000000 in
/-- A datagram for which there is room. -/
theorem add_ok {w : World} {fb n cols cut : Nat} {ds : List ByteArray} {S : Nat → Prop} (h : FrameAt w fb n cols cut ds S) (d : ByteArray) (hd : checkOf d = 0) (hf : tot ds + d.size ≤ n * cols) (hfew : ds.length + 1 < 1000000) :
    Calls Tryd.prog 25 #[.pointer (some ⟨fb, 0, none⟩), .string d] w fun e w' => e = .returned (.tuple #[.int .i64 (tot ds : Nat), .int .i64 0]) ∧ FrameTurned w fb n cols cut (ds ++ [d]) S w' := by
  obtain ⟨i0, hi, hz0, hz1, hz2⟩ := info_parts Tryd.infofp
  obtain ⟨⟨rb, v, old, B, h1, hS1, hS2, hS3⟩, hfoot⟩ := h
  have hn := h1.most
  have hp := h1.pos
  have hm : n * cols ≤ 1024 * 191 := Nat.mul_le_mul h1.most h1.wide
  have hm2 : n * cols ≤ 191 * n := by rw [Nat.mul_comm 191]; exact Nat.mul_le_mul_left _ h1.wide
  have hc := check_calls w d (by omega)
  rw [hd] at hc
  have HC := Lib.hid hc
  have hlt := h1.row.lt
  have hlt2 := h1.rows.lt
  have hne := h1.ne
  have hlen : (plc 0 ds).length = ds.length := plc_len ds 0
  have H1 := Lib.hid h1
  have HS := Lib.hid (show S fb ∧ S rb ∧ ∀ k, v.ownBlock = some k → S k from ⟨hS1, hS2, hS3⟩)
  have HFO := Lib.hid hfoot
  have HLEN := Lib.hid hlen
  clear hc h1 hd hS1 hS2 hS3 hfoot hlen
  go_enter Tryd.func25, Tryd.ntmps25
  go_wp2_with fail
  refine HC.out.mono ?_
  rintro e w1 ⟨rfl, hB⟩
  have h2 := H1.out.frm (Frm.of_below hB) (by omega) (by omega) (fun k hk => by have := H1.out.placed.lt k hk; omega)
  have c0 : w1.cell? ⟨fb, 0, none⟩ = some (.int .i64 n) := h2.row.cell 0
  have c1 : w1.cell? ⟨fb, 1, none⟩ = some (.int .i64 cols) := h2.row.cell 1
  have c4 : w1.cell? ⟨fb, 4, none⟩ = some (.int .i64 (tot ds)) := h2.row.cell 4
  have HB := Lib.hid hB
  have H2 := Lib.hid h2
  have hw1 : w.heap.size ≤ w1.heap.size := hB.size
  clear h2 hB HC
  have e1 : IntKind.i64.wrap ((n : Int) * cols) = ((n * cols : Nat) : Int) := by rw [IntWalk.i64_in _ (by constructor <;> (push_cast; omega))]; push_cast; rfl
  generalize hmm : n * cols = m at *
  have HMM := Lib.hid hmm
  clear hmm
  generalize htt : tot ds = t at *
  have HTT := Lib.hid htt
  clear htt
  have e2 : IntKind.i64.wrap ((m : Int) - t) = (m : Int) - t := IntWalk.i64_in _ (by omega)
  have d1 : decide ((m : Int) - t < d.size) = false := by simp; omega
  go_wp2_with fail
  go_quiet (fail)
  clear e1 e2 d1 c1 c4
  go_wp2_with fail
  go_loopw [39] (fun i wr => ∃ k : Nat, k ≤ d.size ∧ i = .int .i64 k ∧ FRows wr rb n (putB n t k (sb d) B) ∧ Frm (· = rb) w1 wr) (fun i _ => d.size - (intOf i).toNat)
  case atStart => exact ⟨0, Nat.zero_le _, rfl, by rw [putB_zero]; exact H2.out.rows.drewN _, (Frm.refl _ _).drewN _⟩
  case round =>
    obtain ⟨k, hk, rfl, hR, hF⟩ := hrel
    by_cases hlt3 : k < d.size
    · have hc0 : wr.cell? ⟨fb, 0, none⟩ = some (.int .i64 n) := by rw [hF.cell (by omega) (fun e => hne e.symm)]; exact c0
      have HR := Lib.hid hR
      have HF := Lib.hid hF
      clear hR hF
      go_wp2_with fail
      refine (frame_spot _ fb n (t + k) _ (by omega) hp hn (by omega) hc0).mono ?_
      rintro e w2 ⟨rfl, q, rfl⟩
      obtain ⟨hr1, hr2⟩ := rc_bound hp (show t + k < 191 * n by omega)
      have hq1 : (t + k) % n < 2 ^ 53 := by omega
      have hq2 : (t + k) / n < 2 ^ 53 := by omega
      have hc1 : ∀ W : World, (convert 97 3 (.float .f64 (Zf.fl ((t + k) % n)))).run Tryd.prog W = .ok (.int .i64 ((t + k) % n : Nat)) W := fun W =>
        run_convert_float_int W _ _ .f64 .i64 _ _ (by kernel_rfl) Tryd.underlying3 (int_of_fl _ hq1)
      have hc2 : ∀ W : World, (convert 97 3 (.float .f64 (Zf.fl ((t + k) / n)))).run Tryd.prog W = .ok (.int .i64 ((t + k) / n : Nat)) W := fun W =>
        run_convert_float_int W _ _ .f64 .i64 _ _ (by kernel_rfl) Tryd.underlying3 (int_of_fl _ hq2)
      clear hq1 hq2
      have hcell := HR.out.byte hr1 (show (t + k) / n < 255 by omega)
      have hfz := HR.out.frozen ((t + k) % n * 255 + (t + k) / n)
      have hput := HR.out.put hr1 (show (t + k) / n < 255 by omega) (sb d k)
      have HP := Lib.hid (FRows.congr (B' := putB n t (k + 1) (sb d) B) hput (fun r c hr hc => putB_succ hr (by omega)))
      have c5 : wr.cell? ⟨fb, 5, none⟩ = some (.slice (some ⟨rb, 0, none⟩) n n) := by rw [HF.out.cell (by omega) (fun e => hne e.symm)]; exact H2.out.row.cell 5
      have ei := sb_eq hlt3
      have hy := sb_lt d k
      clear hput hc0
      generalize Zf.fl ((t + k) % n) = x1 at *
      generalize Zf.fl ((t + k) / n) = x2 at *
      generalize hrr : (t + k) % n = r at *
      generalize hcc : (t + k) / n = c at *
      generalize sb d k = y at *
      have j1 : (0 : Int) ≤ (r : Int) := by omega
      have j2 : (r : Int) < (n : Int) := by omega
      have j3 : (0 : Int) ≤ (c : Int) := by omega
      have j4 : (c : Int) < 255 := by omega
      have j5 : (0 : Int) ≤ (k : Int) := by omega
      have j6 : (k : Int) < (d.size : Int) := by omega
      clear hrr hcc
      go_wp2_with fail
      go_region_held3 (fun W => W.cell? ⟨fb, 5, none⟩ = some (.slice (some ⟨rb, 0, none⟩) n n)) (first | assumption | go_keep) (fail)
      all_goals
        go_wp2_with fail
        go_roundw
        case rel => exact ⟨k + 1, by omega, by go_num, HP.out, (HF.out.drewN _).setCell (fun _ => rfl) _⟩
        case measure => simp [intOf]; omega
    · obtain rfl : k = d.size := by omega
      have hrow := H2.out.row
      rw [HTT.out] at hrow
      have hfr := hrow.frm hF (fun e => hne e.symm)
      have hfp : FPlaced wr v (plc 0 ds) := H2.out.placed.frm hF (fun k hk e => H2.out.ner (by rw [hk, e]))
      have c3 : wr.cell? ⟨fb, 3, none⟩ = some v := hfr.cell 3
      have hI2 : (wr.alloc (.cells #[.int .i64 (t : Int), .string d] 40)).ownsRow 0 40 2 v (plc 0 ds).length (placedCells (plc 0 ds)) := World.ownsRow.alloc hfp _
      have HI2 := Lib.hid hI2
      have HC0 := Lib.hid (RowAt.new wr 40 #[.int .i64 (t : Int), .string d])
      have hl1 : (plc 0 ds).length + 1 < 1000000 := by rw [HLEN.out]; omega
      have HFR := Lib.hid hfr
      have HFP := Lib.hid hfp
      have HR := Lib.hid hR
      have HF := Lib.hid hF
      have hvl := hfp.lt
      have HVL := Lib.hid hvl
      have hsl : ∃ a m, v = .slice a (plc 0 ds).length m := by
        rcases hfp.2 with ⟨h, h0⟩ | ⟨g, cap, cur, h, _⟩
        · exact ⟨_, _, by rw [h, h0]⟩
        · exact ⟨_, _, h⟩
      obtain ⟨va, vm, rfl⟩ := hsl
      clear hrow hfr hfp hI2 hR hF hvl c0
      generalize hPL : plc 0 ds = PL at *
      have HPL := Lib.hid hPL
      clear hPL
      go_wp2_with (at_builtin; refine wpList_append_own_at _ rfl _ _ 33 rfl 0 40 i0 (.agg #[.int .i64 0, .string ⟨#[]⟩]) 2 24 Tryd.underlying33 hi hz0 hz1 hz2 rfl (by decide) _ _ _ rfl HI2.out ⟨wr.heap.size, 0, none⟩ 1 1 [.int .i64 (t : Int), .string d] rfl rfl ?_ ?_ ?_ ?_ (Nat.zero_le _) ?_)
      case refine_1 => exact cells_two (HC0.out.cell 0) (HC0.out.cell 1)
      case refine_2 =>
        intro u hu
        simp at hu
        rcases hu with rfl | rfl <;> rfl
      case refine_3 => unfold maxLen; omega
      case refine_4 => omega
      case refine_5 =>
        intro v' w3 hown1 hgrow _ hloc
        obtain ⟨g', cap', hv', _, _⟩ := hown1.form (by omega)
        have hF3 : Frm (fun k => k = rb ∨ (Value.slice va PL.length vm).ownBlock = some k) w1 w3 :=
          ((HF.out.alloc (.cells #[.int .i64 (t : Int), .string d] 40)).mono (T := fun k => k = rb ∨ (Value.slice va PL.length vm).ownBlock = some k) (fun k _ h => .inl h)).step (Frm.of_grown hgrow) (fun k _ h => .inr h)
        have hFw : Frm (fun k => k = rb ∨ (Value.slice va PL.length vm).ownBlock = some k) wr w3 :=
          ((Frm.refl _ wr).alloc _).step (Frm.of_grown hgrow) (fun k _ h => .inr h)
        have hnf : ¬ (fb = rb ∨ (Value.slice va PL.length vm).ownBlock = some fb) := fun h => h.elim (fun e => hne e.symm) H2.out.nef
        have hr3 : RowAt w3 fb 69 (fcells n cols cut t (.slice va PL.length vm) rb old) := HFR.out.frm hFw hnf
        have hR3 : FRows w3 rb n (putB n t d.size (sb d) B) := (HR.out.frm ((Frm.refl (fun _ => False) wr).alloc _) (fun h => h)).frm (Frm.of_grown hgrow) H2.out.ner
        have hP3 : FPlaced w3 v' (PL ++ [(t, d)]) := by
          unfold FPlaced placedCells
          rw [List.flatMap_append, List.length_append]; exact hown1
        have k3 : w3.cell? ⟨fb, 3, none⟩ = some (.slice va PL.length vm) := hr3.cell 3
        have k4 : w3.cell? ⟨fb, 4, none⟩ = some (.int .i64 t) := hr3.cell 4
        have k6 : w3.cell? ⟨fb, 6, none⟩ = some (.bool old) := hr3.cell 6
        have f3 := hr3.frozen 3
        have f4 := hr3.frozen 4
        have f6 := hr3.frozen 6
        have hwr : w1.heap.size ≤ wr.heap.size := HF.out.size
        have hv4 : v'.ownBlock ≠ some fb := by
          rcases hloc with h | h
          · rw [h]; exact H2.out.nef
          · rw [h]; intro e; cases e; omega
        have hv5 : v'.ownBlock ≠ some rb := by
          rcases hloc with h | h
          · rw [h]; exact H2.out.ner
          · rw [h]; intro e; cases e; omega
        have hv6 : ∀ k, v'.ownBlock = some k → (Value.slice va PL.length vm).ownBlock = some k ∨ w.heap.size ≤ k := by
          intro k hk
          rcases hloc with h | h
          · exact .inl (by rw [← h, hk])
          · rw [h] at hk; cases hk; right; simp at *; omega
        have HR3 := Lib.hid hr3
        have HRR := Lib.hid hR3
        have HP3 := Lib.hid hP3
        have HV := Lib.hid (show v'.ownBlock ≠ some fb ∧ v'.ownBlock ≠ some rb ∧ (∀ k, v'.ownBlock = some k → (Value.slice va PL.length vm).ownBlock = some k ∨ w.heap.size ≤ k) ∧ ∀ k, v'.ownBlock = some k → k < w3.heap.size from ⟨hv4, hv5, hv6, fun k hk => FPlaced.lt hP3 k hk⟩)
        have HF3 := Lib.hid hF3
        subst hv'
        clear hown1 hgrow hloc hr3 hR3 hP3 hv4 hv5 hv6 hF3 hFw hnf HI2 HC0
        go_wp2_with fail
        go_ret2
        have hst : Frm (· = fb) w3 (((w3.setCell ⟨fb, 3, none⟩ (.slice (some ⟨g', 0, none⟩) (PL.length + 1) cap')).setCell ⟨fb, 4, none⟩ (.int .i64 ((t : Int) + d.size))).setCell ⟨fb, 6, none⟩ (.bool true)) :=
          (((Frm.refl (· = fb) w3).setCell (p := ⟨fb, 3, none⟩) (fun _ => rfl) _).setCell (p := ⟨fb, 4, none⟩) (fun _ => rfl) _).setCell (p := ⟨fb, 6, none⟩) (fun _ => rfl) _
        obtain ⟨v4, v5, v6, v7⟩ := HV.out
        obtain ⟨s1, s2, s3⟩ := HS.out
        have htt : tot (ds ++ [d]) = t + d.size := by rw [tot_snoc, HTT.out]
        have hpl : plc 0 (ds ++ [d]) = PL ++ [(t, d)] := by rw [plc_snoc, HPL.out, HTT.out, Nat.zero_add]
        refine ⟨by rw [HTT.out]; rfl, fun k => S k ∨ (Value.slice (some ⟨g', 0, none⟩) (PL.length + 1) cap').ownBlock = some k, ⟨⟨rb, .slice (some ⟨g', 0, none⟩) (PL.length + 1) cap', true, putB n t d.size (sb d) B, ⟨hne, ?_, HRR.out.frm hst (fun e => hne e), ?_, v4, v5, ?_, ?_, (fun h => by cases h), hp, hn, H2.out.wide, H2.out.slim, ?_, by simpa using hfew⟩, .inl s1, .inl s2, fun k hk => .inr hk⟩, ?_⟩, ?_, ?_⟩
        · have := ((HR3.out.setCell 3 (.slice (some ⟨g', 0, none⟩) (PL.length + 1) cap')).setCell 4 (.int .i64 ((t : Int) + d.size))).setCell 6 (.bool true)
          rw [htt]; exact this
        · rw [hpl]; exact HP3.out.frm hst (fun k hk e => v4 (by rw [hk, e]))
        · intro r c
          unfold putB
          split
          · exact sb_lt _ _
          · exact H2.out.byte r c
        · intro r c hr hc
          have := dataB_snoc (n := n) (ds := ds) (d := d) (r := r) hc B (H2.out.data r c hr hc)
          rw [HTT.out] at this; exact this
        · rw [htt]; have := HMM.out; omega
        · rintro k (hk | hk)
          · have h1 := HFO.out k hk
            have h3 : w1.heap.size ≤ w3.heap.size := HF3.out.size
            simp [World.setCell]; omega
          · have h1 := v7 k hk
            simp [World.setCell]; omega
        · refine (((Frm.of_below HB.out).mono (T := S) (fun k hk e => by omega)).step HF3.out (fun k hk h => ?_)).step hst (fun k hk h => by rw [h]; exact s1)
          rcases h with h | h
          · rw [h]; exact s2
          · exact s3 k h
        · rintro k (hk | hk)
          · exact .inl hk
          · rcases v6 k hk with h | h
            · exact .inl (s3 k h)
            · exact .inr h
end Go.Proofs.YtmfpmgelhhbfiaaDoor
