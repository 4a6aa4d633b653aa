/- The chapter's example: awake. -/
import Derived.Test.YtmfpmgelhhbfiaaDoorAwakp
import Derived.Deep.RegionHeld3
namespace Go.Proofs.YtmfpmgelhhbfiaaDoor
open Go.RowKit

set_option maxRecDepth 100000 in
set_option maxHeartbeats 4000000 in
theorem awake_calls (w : World) (hT : SizesAt w 1) :
    Calls Tryd.prog 6 #[] w fun e w' => e = .returned (.bool true) ∧ Below w.heap.size w w' := by
  have hms : (madeOf 280 1).size = 300 := madeOf_size 280 1
  have hme : (madeOf 280 1).toList.isEmpty = false := toList_isEmpty (by omega)
  have hnew := new_any w 256 (by decide) hT
  have hmade := fun W : World => made_calls W 280 280 1 (by decide) (by decide) (by decide)
  have HE := Lib.hid hme
  have HS := Lib.hid hms
  have hex : ∀ r, OutFrom 256 (exB (sb (madeOf 280 1))) exK [0] 0 r → r = [(0, madeOf 280 1)] := fun r h => ex_out h
  have HX := Lib.hid hex
  clear hex
  have HN := Lib.hid hnew
  have HM := Lib.hid hmade
  clear hme hms hnew hmade hT
  have hBl := exB_lt (madeOf 280 1)
  have HBL := Lib.hid hBl
  clear hBl
  generalize madeOf 280 1 = d at *
  go_enter Tryd.func6, Tryd.ntmps6
  go_wp2_with fail
  refine HN.out.mono ?_
  rintro e w1 ⟨tb, S, rfl, hTA, hB1, hS⟩
  have HTA := Lib.hid hTA
  have HB1 := Lib.hid hB1
  have HSS := Lib.hid hS
  clear hTA hB1 hS
  go_wp2_with fail
  refine (HM.out _).mono ?_
  rintro e w2 ⟨rfl, hB2⟩
  have HTA2 := Lib.hid (HTA.out.below hB2)
  have HB2 := Lib.hid (HB1.out.trans (hB2.mono HB1.out.size))
  clear hB2 HTA HB1
  go_wp2_with fail
  refine (put_table HTA2.out 0 d _ rfl (by rw [HS.out]; omega) (by rw [HS.out]; omega) (by simp) (by simp) HE.out).mono ?_
  rintro e w3 ⟨rfl, S3, hTA3, hF3, hS3⟩
  rw [HS.out] at hTA3
  have HTA3 := Lib.hid hTA3
  have hB3 : Below w.heap.size w w3 := HB2.out.trans (hF3.below HB2.out.size (fun k hk hs => by have := HSS.out k hs; omega))
  have hS3' : ∀ k, S3 k → w.heap.size ≤ k := fun k hk => by
    rcases hS3 k hk with h | h
    · exact HSS.out k h
    · have := HB2.out.size; omega
  have HB3 := Lib.hid hB3
  have HSS3 := Lib.hid hS3'
  clear hTA3 hF3 hS3 hB3 hS3' HTA2 HB2 HSS
  go_wp2_with fail
  refine (pad_table HTA3.out 189 _ rfl (by omega)).mono ?_
  rintro e w4 ⟨rfl, S4, hTA4, hF4, hS4⟩
  have HTA4 := Lib.hid hTA4
  have hB4 : Below w.heap.size w w4 := HB3.out.trans (hF4.below HB3.out.size (fun k hk hs => by have := HSS3.out k hs; omega))
  have HB4 := Lib.hid hB4
  clear hTA4 hF4 hS4 hB4 HTA3 HB3 HSS3
  go_wp2_with fail
  refine (lost_table HTA4.out 0 _ rfl (by omega)).mono ?_
  rw [show (lostOf (padK 189 (putK 256 0 300 fun _ _ => false)) 0).length = 64 from lost0]
  rintro e w5 ⟨rfl, hB5⟩
  have HTA5 := Lib.hid (HTA4.out.below hB5)
  have HB5 := Lib.hid (HB4.out.trans (hB5.mono HB4.out.size))
  clear hB5 HTA4 HB4
  go_wp2_with fail
  refine (lost_table HTA5.out 44 _ rfl (by omega)).mono ?_
  rw [show (lostOf (padK 189 (putK 256 0 300 fun _ _ => false)) 44).length = 65 from lost44]
  rintro e w6 ⟨rfl, hB6⟩
  have HTA6 := Lib.hid (HTA5.out.below hB6)
  have HB6 := Lib.hid (HB5.out.trans (hB6.mono HB5.out.size))
  clear hB6 HTA5 HB5
  go_wp2_with fail
  refine (out_table HTA6.out HBL.out (by simp)).mono ?_
  rintro e w7 ⟨v, r, rfl, hO, hP, _, hB7, _⟩
  have hr := HX.out r hO
  subst hr
  have HB7 := Lib.hid (HB6.out.trans (hB7.mono HB6.out.size))
  obtain ⟨g, cap, hv, hg1, hg2⟩ : ∃ g cap, v = .slice (some ⟨g, 0, none⟩) 1 cap ∧ g < w7.heap.size ∧ w7.cell? ⟨g, 1, none⟩ = some (.string d) := by
    rcases hP.2 with ⟨_, h⟩ | ⟨g, cap, cur, h, _, hg, hn, _, hsz, htk⟩
    · simp at h
    · refine ⟨g, cap, h, heap_lt hg, ?_⟩
      rw [cell_of_row w7 g 1 cur _ (0, 0) hg]
      have : (cur.toList.take ([(0, d)].length * 2))[1]? = some (.string d) := by rw [htk]; rfl
      rw [List.getElem?_take, if_pos (by simp), Array.getElem?_toList] at this
      exact this
  subst hv
  have hM : ∀ W : World, Below w7.heap.size w7 W → W.cell? ⟨g, 1, none⟩ = some (.string d) → Calls Tryd.prog 23 #[.int .i64 280, .int .u8 1] W fun e w' => e = .returned (.string d) ∧ w'.cell? ⟨g, 1, none⟩ = some (.string d) ∧ Below W.heap.size W w' := by
    intro W hW hc
    refine (HM.out W).mono ?_
    rintro e w' ⟨rfl, hB⟩
    refine ⟨rfl, ?_, hB⟩
    rw [hB.cell (Nat.lt_of_lt_of_le hg1 hW.size)]; exact hc
  have HMM := Lib.hid hM
  clear hO hP hB7 hM HM HX HTA6 HB6 HBL HN HE HS
  go_wp2_with fail
  go_region_held3 (fun W => W.cell? ⟨g, 1, none⟩ = some (.string d)) (first | exact hg2 | assumption | go_keep)
    (first | (go_at_call 23; refine (HMM.out _ ((Below.refl _ w7).drew) hg2).mono ?_; rintro e w8 ⟨rfl, hc8, hB8⟩))
  have HB8 := Lib.hid (HB7.out.trans (((Below.refl w.heap.size w7).drew).trans (hB8.mono HB7.out.size)))
  clear hB8
  go_wp2
  go_ret
  exact ⟨rfl, HB8.out⟩

end Go.Proofs.YtmfpmgelhhbfiaaDoor
