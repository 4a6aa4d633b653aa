/- Package rs: 64 bytes of parity, walked. -/
import Derived.Test.YtmfpmgelhhbfiaaDoorEncp
import Derived.WalkMore
import Derived.Laws.CopyOwn
import Derived.Deep.RegionLaw
namespace Go.Proofs.YtmfpmgelhhbfiaaDoor
open Go.RowKit

def RegAt (w : World) (b : Nat) (f : Nat → Nat) : Prop := ArrAt 134 64 w b f
theorem RegAt.frm {S : Nat → Prop} {w w' : World} {b : Nat} {f : Nat → Nat} (h : RegAt w b f) (F : Frm S w w') (hs : ¬ S b) : RegAt w' b f := ArrAt.frm h F hs

set_option maxRecDepth 100000
set_option maxHeartbeats 2000000
theorem enc_calls (w : World) (s : ByteArray) (hs : s.size = 191) :
    Calls Tryd.prog 62 #[.string s] w fun e w' => e = .returned (.tuple #[.string (encS s), .int .i64 0]) ∧ Below w.heap.size w w' := by
  have h191 : ((s.size : Int) != 191) = false := by simp [hs]
  have hs2 : s.size ≤ 300 := by omega
  have HS := Lib.hid hs
  clear hs
  go_enter Tryd.func62, Tryd.ntmps62
  go_wp2_with fail
  go_step3
  go_wp2_with fail
  refine (gfnew_calls _).mono ?_
  rintro e w1 ⟨fb, rfl, hF, hB1, hfb⟩
  have hfl := hF.lt
  have HF := Lib.hid hF
  have HB1 := Lib.hid hB1
  clear hF hB1
  go_wp2_with fail
  refine (gen_calls _).mono ?_
  rintro e w2 ⟨rfl, hB2⟩
  have HF2 := Lib.hid (HF.out.below hB2 hfl)
  have HB2 := Lib.hid hB2
  have hgs := genS_size
  have hfw2 : fb < w2.heap.size := HF2.out.lt
  have hw12 := hB2.size
  have HTAP := Lib.hid (show ∀ j, sb genS (63 - j) = tapN j from fun j => rfl)
  clear hB2
  generalize genS = G at *
  go_wp2_with fail
  go_loopw [18] (fun i wr => ∃ k : Nat, k ≤ 64 ∧ i = .int .i64 k ∧ RegAt wr w2.heap.size (fun j => if j < k then tapN j else 0) ∧ Below w2.heap.size w2 wr) (fun i _ => 64 - (intOf i).toNat)
  case atStart => exact ⟨0, Nat.zero_le _, rfl, (ArrAt.new w2 134 64).congr (fun j _ => by simp), (Below.refl _ _).alloc (Nat.le_refl _) _⟩
  case round =>
    obtain ⟨k, hk, rfl, hR, hB⟩ := hrel
    by_cases hlt : k < 64
    · have hc := ArrAt.cell hR hlt
      have hf := ArrAt.frozen hR k
      have b1 : IntKind.i64.wrap (63 - (k : Int)) = ((63 - k : Nat) : Int) := by rw [IntKind.wrap_i64]; omega
      have hlt2 : 63 - k < G.size := by omega
      have b2 : ((63 - k : Nat) : Int) < (G.size : Int) := by omega
      have b3 : (k : Int) < 64 := by omega
      have ei := sb_eq hlt2
      have hy := sb_lt G (63 - k)
      have HR := Lib.hid (ArrAt.set (g := fun j => if j < k + 1 then tapN j else 0) hR k (sb G (63 - k)) (fun j => by
        rw [HTAP.out]
        by_cases e : j = k
        · subst e; rw [if_pos rfl, if_pos (by omega)]
        · rw [if_neg e]
          by_cases g : j < k
          · rw [if_pos g, if_pos (by omega)]
          · rw [if_neg g, if_neg (by omega)]))
      have HB := Lib.hid hB
      clear hR hB
      rw [if_neg (by omega)] at hc
      generalize 63 - k = m at *
      generalize sb G m = y at *
      go_wp2_with fail
      go_roundw
      case rel => exact ⟨k + 1, by omega, by go_num, HR.out, HB.out.setCell (Nat.le_refl _) _⟩
      case measure => simp [intOf]; omega
    · obtain rfl : k = 64 := by omega
      have HR := Lib.hid (ArrAt.congr (g := tapN) hR (fun j hj => by rw [if_pos hj]))
      have HB := Lib.hid hB
      clear hR hB
      have HN := Lib.hid ((ArrAt.new wr 134 64))
      have HRn := Lib.hid (ArrAt.frm HR.out ((Frm.refl (fun _ => False) wr).alloc (.cells (Array.replicate 64 (.int .u8 0)) 134)) (fun h => h))
      have HBn := Lib.hid (HB.out.alloc HB.out.size (.cells (Array.replicate 64 (.int .u8 0)) 134))
      have hlr : w2.heap.size < wr.heap.size := HR.out.lt
      go_wp2_with fail
      go_step3
      go_wp2_with fail
      generalize hrb : wr.heap.size = rb at *
      go_loopw [30] (fun i wr => ∃ k : Nat, k ≤ s.size ∧ i = .int .i64 k ∧ RegAt wr w2.heap.size tapN ∧ RegAt wr rb (encR (sb s) k) ∧ Below w2.heap.size w2 wr) (fun i _ => s.size - (intOf i).toNat)
      case atStart => exact ⟨0, Nat.zero_le _, rfl, HRn.out, HN.out, HBn.out⟩
      case round =>
        obtain ⟨k, hk, rfl, hT, hR, hB⟩ := hrel
        by_cases hlt : k < s.size
        · have hc := ArrAt.cell hR (show 0 < 64 by decide)
          have hx0 := encR_lt (sb s) k 0
          have ei := sb_eq hlt
          have hy := sb_lt s k
          obtain ⟨cur, hr1, hr2, hr3⟩ := hR
          have hR : RegAt wr rb (encR (sb s) k) := ⟨cur, hr1, hr2, hr3⟩
          have HRLT := Lib.hid (encR_lt (sb s) k)
          have HSTEP := Lib.hid (show encR (sb s) (k + 1) = encStep (sb s k ^^^ encR (sb s) k 0) (encR (sb s) k) from rfl)
          have hl : cur.toList.length = 64 := by simpa using hr2
          have HG := Lib.hid (show wr.heap[rb]? = some (.cells cur.toList.toArray 134 (0, 0)) by unfold RowAt at hr1; simpa using hr1)
          have HC := Lib.hid (show ∀ q j v, (cur.toList.drop 1)[j]? = some v → ((wr.drewN q).drew).cell? ((⟨rb, 1, none⟩ : Addr).add j) = some v by
            intro q j v hv
            rw [show (⟨rb, 1, none⟩ : Addr).add j = ⟨rb, 1 + j, none⟩ by simp [Addr.add]]
            show wr.cell? ⟨rb, 1 + j, none⟩ = some v
            rw [List.getElem?_drop, Array.getElem?_toList] at hv
            rw [hr1.cell]; exact hv)
          have HO := Lib.hid (show ∀ v ∈ cur.toList.drop 1, v.oneCell' = true by
            intro v hv
            obtain ⟨j, hj⟩ := List.getElem?_of_mem hv
            have hj2 : j + 1 < 64 := by
              have := (List.getElem?_eq_some_iff.1 hj).1
              simp at this; omega
            rw [List.getElem?_drop, Array.getElem?_toList] at hj
            rw [hr3 (1 + j) (by omega)] at hj; injection hj with hj; subst hj; rfl)
          have H3 := Lib.hid hr3
          clear hr1 hr3
          have HT := Lib.hid hT
          have HR3 := Lib.hid hR
          have HB3 := Lib.hid hB
          clear hT hR hB
          have b1 : (k : Int) < (s.size : Int) := by omega
          generalize sb s k = y at *
          generalize hRk : encR (sb s) k = R at *
          have HRK := Lib.hid hRk
          clear hRk
          generalize hx00 : R 0 = x0 at *
          have HX0 := Lib.hid hx00
          clear hx00
          go_wp2_with fail
          go_quiet (fail)
          go_wp2_with fail
          go_region_law (refine step_copy_splice rfl (.tmp 39) (.tmp 40) 89 89 rfl 5 Tryd.underlying89 (by kernel_rfl) (some ⟨rb, 0, none⟩) (some ⟨rb, 1, none⟩) 64 64 63 63 rfl rfl rb 0 cur.toList 134 HG.out (cur.toList.drop 1) (by rw [List.length_drop, hl]; rfl) (fun _ => ⟨rfl, _, rfl, HC.out _⟩) (by rw [List.length_drop]; omega) HO.out rb wr ((Below.refl rb wr).drewN _).drew (Nat.le_refl _) ?_; intro w4 hg4 hb4)
          obtain ⟨c63, hc63⟩ : ∃ v, w4.cell? ⟨rb, 63, none⟩ = some v := by
            rw [cell_of_row w4 rb 63 _ _ (0, 0) hg4.out, List.getElem?_toArray, List.getElem?_eq_getElem (by simp [splice, hl])]
            exact ⟨_, rfl⟩
          have hf63 : w4.frozen? ⟨rb, 63, none⟩ = false := by
            have := hg4.out
            simp [World.frozen?, this]
          have HR5 : Hid (RegAt (w4.setCell ⟨rb, 63, none⟩ (.int .u8 (0 : Nat))) rb (shl0 R)) := by
            refine Lib.hid ⟨_, RowAt.setCell (cur := (splice cur.toList 0 (cur.toList.drop 1)).toArray) hg4.out 63 _, by simp [splice, hl], fun j hj => ?_⟩
            have hd : (cur.toList.drop 1).length = 63 := by rw [List.length_drop, hl]
            by_cases e : j < 63
            · rw [Array.getElem?_setIfInBounds_ne (by omega), List.getElem?_toArray, splice, List.take_zero, List.nil_append, hd]
              rw [List.getElem?_append_left (by omega), List.getElem?_drop, Array.getElem?_toList, H3.out (1 + j) (by omega)]
              unfold shl0
              rw [if_pos e, Nat.add_comm]
            · obtain rfl : j = 63 := by omega
              rw [Array.getElem?_setIfInBounds_self, if_pos (by simp [splice, hl]), shl0, if_neg (by omega)]
          have HT4 := Lib.hid (ArrAt.frm HT.out (Frm.of_below hb4) (by omega))
          have HB4 := Lib.hid (HB3.out.trans (hb4.mono (by have := HB3.out.size; have := HR3.out.lt; omega)))
          have HT5 := Lib.hid (ArrAt.setOther HT4.out (p := ⟨rb, 63, none⟩) (by show w2.heap.size ≠ rb; omega) (.int .u8 (0 : Nat)))
          have HB5 := Lib.hid (HB4.out.setCell (p := ⟨rb, 63, none⟩) (by show w2.heap.size ≤ rb; omega) (.int .u8 (0 : Nat)))
          clear HR3 HT HT4 HB4 HB3 HG HC HO H3
          rw [u8_xor_nat y x0 hy hx0]
          have hx : y ^^^ x0 < 256 := Nat.xor_lt_two_pow (n := 8) hy hx0
          generalize y ^^^ x0 = x at *
          by_cases hx00 : x = 0
          · subst hx00
            have HR6 := Lib.hid (ArrAt.congr (g := encR (sb s) (k + 1)) HR5.out (fun j _ => by rw [HSTEP.out]; exact encStep_zero _ _))
            go_wp2_with fail
            go_roundw
            case rel => (repeat apply Exists.intro); exact ⟨⟨k + 1, by omega, by go_num, HT5.out, HR6.out, HB5.out⟩, rfl⟩
            case measure => simp [intOf]; omega
          · have hx1 : ((x : Int) == 0) = false := by simp; omega
            obtain ⟨tc, t1, t2, t3⟩ := HT5.out
            have hinfo : (Tryd.prog.info? 134).map (·.size) = some tc.size := by rw [t2]; kernel_rfl
            have T1 := Lib.hid t1
            have T3 := Lib.hid t3
            clear t1 t3
            go_wp2_with (refine wpList_load_row rfl 134 (.tmp 6) rfl w2.heap.size rfl 134 tc (0, 0) _ T1.out Tryd.underlying134 rfl hinfo ?_)
            have hsz4 : (w4.setCell ⟨rb, 63, none⟩ (.int .u8 (0 : Nat))).heap.size = w4.heap.size := by simp [World.setCell]
            have hidx : ∀ m : Nat, m < 64 → ∀ W : World, (Instr.index 134 (.agg tc) (.int .i64 m)).run Tryd.prog W = .ok (.int .u8 (tapN m : Nat)) W := by
              intro m hm W
              exact run_index_one W _ 5 64 _ .i64 m _ _ Tryd.underlying134 Tryd.underlying5 rfl (by kernel_rfl) (by omega) (by omega) (T3.out m hm)
            have HX := Lib.hid hidx
            have HF5 := Lib.hid (HF2.out.below HB5.out hfw2)
            have hlt5 : rb < (w4.setCell ⟨rb, 63, none⟩ (.int .u8 (0 : Nat))).heap.size := ArrAt.lt HR5.out
            clear hidx hc hc63 hf63 ei hinfo
            rw [show ((0 : Nat) : Int) = 0 from rfl] at *
            generalize (w4.setCell ⟨rb, 63, none⟩ (.int .u8 0)) = w5 at *
            go_loopw [46] (fun i wr => ∃ m : Nat, m ≤ 64 ∧ i = .int .i64 m ∧ RegAt wr rb (encT x R m) ∧ Frm (· = rb) w5 wr) (fun i _ => 64 - (intOf i).toNat)
            case atStart => exact ⟨0, Nat.zero_le _, rfl, ArrAt.congr HR5.out (fun j _ => encT_zero _ _ _), Frm.refl _ _⟩
            case round =>
              obtain ⟨m, hm, rfl, hR, hF⟩ := hrel
              by_cases hlt3 : m < 64
              · have hc := ArrAt.cell hR hlt3
                have hf := ArrAt.frozen hR m
                have hx1 := encT_lt HRLT.out (x := x) m m
                have hx2 : tapN m < 256 := by rw [← HTAP.out]; exact sb_lt _ _
                have hg := gm_lt x (tapN m)
                have hi := HX.out m hlt3
                have HS := Lib.hid (ArrAt.set (g := encT x R (m + 1)) hR m (encT x R m m ^^^ gm x (tapN m)) (fun j => encT_step x R m j))
                have HFr := Lib.hid (HF5.out.frm hF (by omega))
                have HF := Lib.hid hF
                have b1 : (m : Int) < 64 := by omega
                have b0 : (0 : Int) ≤ (m : Int) := by omega
                clear hR hF
                generalize encT x R m m = cv at *
                generalize tapN m = tp at *
                go_wp2_with fail
                go_region_with (go_at_call 74; refine (gfmul_calls _ fb x tp _ _ rfl rfl hx hx2 ?_).mono ?_; exact HFr.out; rintro e w' ⟨rfl, q, rfl⟩)
                all_goals
                  rw [u8_xor_nat cv _ hx1 hg]
                  go_wp2_with fail
                  go_roundw
                  case rel => exact ⟨m + 1, by omega, by go_num, HS.out, (HF.out.drewN _).setCell (fun _ => rfl) _⟩
                  case measure => simp [intOf]; omega
              · obtain rfl : m = 64 := by omega
                have HR6 := Lib.hid (ArrAt.congr (g := encR (sb s) (k + 1)) hR (fun j _ => by rw [HSTEP.out]; rfl))
                have HT6 := Lib.hid (ArrAt.frm HT5.out hF (by omega))
                have HB6 := Lib.hid (HB5.out.trans (hF.below (by have := HB5.out.size; omega) (fun k hk e => by omega)))
                clear hR hF
                go_wp2_with fail
                go_roundw
                case rel => (repeat apply Exists.intro); exact ⟨⟨k + 1, by omega, by go_num, HT6.out, HR6.out, HB6.out⟩, rfl⟩
                case measure => simp [intOf]; omega
        · obtain rfl : k = s.size := by omega
          have h191' := HS.out
          have hcv : (convert 89 9 (.slice (some ⟨rb, 0, none⟩) 64 64)).run Tryd.prog wr = .ok (.string (encS s)) wr := by
            rw [encS_eq]
            refine part_text (fun j hj => ?_) (fun j hj => encR_lt _ _ _)
            rw [Nat.zero_add]
            have := ArrAt.cell hR hj
            rw [h191'] at this
            exact this
          have HB := Lib.hid hB
          clear hR hT hB h191'
          go_wp2_with fail
          rw [Exit.noGoto_ret]
          go_ret2
          exact ⟨rfl, HB1.out.trans ((HB2.out.mono HB1.out.size).trans (HB.out.mono (by omega)))⟩
end Go.Proofs.YtmfpmgelhhbfiaaDoor
