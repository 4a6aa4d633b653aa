/- A frame's rows get their parity. -/
import Derived.Test.YtmfpmgelhhbfiaaDoorFram
import Derived.Test.YtmfpmgelhhbfiaaDoorEnc
import Derived.Test.YtmfpmgelhhbfiaaDoorScope
import Derived.Lib.BufferWrite
namespace Go.Proofs.YtmfpmgelhhbfiaaDoor
open Go.RowKit

/-- 'copy(x, s)' of a string that fits. -/
theorem wpList_copy_string {P : Program} {w : World} {ops : Array Oper} {rest : List Oper} {o : Oper} {a : Act} {Q : Exit → Act → World → Prop} (hgd : o.guard = none) (d s : Operand) (dT sT : TypeId)
    (ho : o.op = .call { callee := .builtin .copy, args := #[d, s], argTypes := #[dT, sT] }) (elem : TypeId) (hu : P.underlying dT = some (.slice elem)) (hsz : (P.info? elem).map (·.size) = some 1)
    (g off dLen dCap : Nat) (str : ByteArray) (hd : a.eval d = .slice (some ⟨g, off, none⟩) dLen dCap) (hs : a.eval s = .string str)
    (cur : Array Value) (t : TypeId) (hg : w.heap[g]? = some (.cells cur t (0, 0))) (hle : str.size ≤ dLen) (hfit : off + str.size ≤ cur.size)
    (h : ∀ w', Hid (w'.heap[g]? = some (.cells (cur.toList.take off ++ Lib.byteCells str.data.toList ++ cur.toList.drop (off + str.size)).toArray t (0, 0))) → Hid (Frm (· = g) w w') → wpList P ops Q rest (a.put o.dst (goInt str.size)) w') : wpList P ops Q (o :: rest) a w := by
  refine wpList_plain hgd fun K hK => ?_
  have hrun := Lib.run_copy_row_string (P := P) w dT sT o.type elem g off dLen dCap str cur t hu hsz hg hle hfit
  unfold Oper.wp
  simp [execOp, ho, resolve, invoke, builtin, hd, hs, hrun, Result.andThen]
  refine hK _ _ (h _ ?_ ?_)
  · have := setRow_heap w g cur (cur.toList.take off ++ Lib.byteCells str.data.toList ++ cur.toList.drop (off + str.size)).toArray t (0, 0) hg
    simpa using Lib.hid this
  · exact Lib.hid ⟨rfl, rfl, rfl, by simp [World.setRow], fun k hk hs => setRow_other w g k _ hs⟩

set_option maxRecDepth 100000 in
/-- A row's last 64 bytes are laid anew. -/
theorem frows_copied {w' : World} {rb n i : Nat} {B : Nat → Nat → Nat} {cur : Array Value} {f : Nat → Nat} (h2 : cur.size = n * 255) (h3 : ∀ r c, r < n → c < 255 → cur[r * 255 + c]? = some (.int .u8 (B r c : Nat))) (hi : i < n) (hf : ∀ j, j < 64 → f j < 256)
    (h : w'.heap[rb]? = some (.cells (cur.toList.take (i * 255 + 191) ++ Lib.byteCells (bytesL 64 f) ++ cur.toList.drop (i * 255 + 191 + 64)).toArray 96 (0, 0))) :
    FRows w' rb n (fun r c => if r = i ∧ 191 ≤ c then f (c - 191) else B r c) := by
  have hl : cur.toList.length = n * 255 := by simpa using h2
  have hb : (Lib.byteCells (bytesL 64 f)).length = 64 := by rw [Lib.byteCells_length, bytesL_len]
  have ht : (cur.toList.take (i * 255 + 191)).length = i * 255 + 191 := by rw [List.length_take, hl]; omega
  refine ⟨_, h, ?_, fun r c hr hc => ?_⟩
  · rw [List.size_toArray, List.length_append, List.length_append, ht, hb, List.length_drop, hl]; omega
  · rw [List.getElem?_toArray, List.append_assoc]
    dsimp only
    by_cases e : r = i ∧ 191 ≤ c
    · obtain ⟨rfl, h191⟩ := e
      rw [if_pos ⟨rfl, h191⟩, List.getElem?_append_right (by omega), ht, List.getElem?_append_left (by omega), show r * 255 + c - (r * 255 + 191) = c - 191 by omega]
      unfold Lib.byteCells
      rw [List.getElem?_map, bytesL_get f (by omega)]
      exact congrArg some (byteV_nat _ (hf (c - 191) (by omega)))
    · rw [if_neg e, ← h3 r c hr hc]
      by_cases hlt : r * 255 + c < i * 255 + 191
      · rw [List.getElem?_append_left (by omega), List.getElem?_take, if_pos hlt, Array.getElem?_toList]
      · rw [List.getElem?_append_right (by omega), ht, List.getElem?_append_right (by omega), hb, List.getElem?_drop, Array.getElem?_toList]
        congr 1; omega

def FrFresh (fb i : Nat) (a : Act) : Prop := ∃ (u1 u3 u4 u5 u6 u7 u8 u9 u10 u11 u12 u13 u14 u15 u16 u17 u18 u19 u20 u21 u22 u23 u24 u25 u26 u27 u28 u29 u30 u31 u32 u33 u34 u35 u36 u37 u38 u39 u40 u41 u42 u43 : Value), a = { tmps := #[.pointer (some ⟨fb, 0, none⟩), u1, .int .i64 i, u3, u4, u5, u6, u7, u8, u9, u10, u11, u12, u13, u14, u15, u16, u17, u18, u19, u20, u21, u22, u23, u24, u25, u26, u27, u28, u29, u30, u31, u32, u33, u34, u35, u36, u37, u38, u39, u40, u41, u42, u43], defers := [] }

/-- Rows of which so many have their parity. -/
def freshTo (n : Nat) (ds : List ByteArray) (B : Nat → Nat → Nat) (i r c : Nat) : Nat := if r < i ∧ 191 ≤ c then parB n ds r (c - 191) else B r c

set_option maxRecDepth 100000 in
set_option maxHeartbeats 4000000 in
theorem fresh_calls {w : World} {fb n cols cut : Nat} {ds : List ByteArray} {rb : Nat} {v : Value} {old : Bool} {B : Nat → Nat → Nat} (h : FrameIs w fb n cols cut ds rb v old B) :
    Calls Tryd.prog 54 #[.pointer (some ⟨fb, 0, none⟩)] w fun e w' => e = .returned (.tuple #[]) ∧ FrameIs w' fb n cols cut ds rb v false (if old = true then freshTo n ds B n else B) ∧ Frm (fun k => k = fb ∨ k = rb ∨ w.heap.size ≤ k) w w' := by
  have hn := h.most
  have hne := h.ne
  have hlt := h.row.lt
  have hlt2 := h.rows.lt
  have H := Lib.hid h
  cases old with
  | false =>
    have c6 : w.cell? ⟨fb, 6, none⟩ = some (.bool false) := h.row.cell 6
    have f6 := h.row.frozen 6
    clear h
    go_enter Tryd.func54, Tryd.ntmps54
    go_wp2_with fail
    refine wp_scope_one 0 rfl (fun a' w' => FrFresh fb 0 a' ∧ w' = w) (fun _ _ => 0) ?_ ?_
    · rintro a w1 ⟨⟨u1, u3, u4, u5, u6, u7, u8, u9, u10, u11, u12, u13, u14, u15, u16, u17, u18, u19, u20, u21, u22, u23, u24, u25, u26, u27, u28, u29, u30, u31, u32, u33, u34, u35, u36, u37, u38, u39, u40, u41, u42, u43, rfl⟩, rfl⟩
      go_wp2_with fail
      refine jumps_ret ?_
      refine bodyPost_ret (results_none rfl _ _ _) rfl ?_
      have hset : Frm (· = fb) w1 (w1.setCell ⟨fb, 6, none⟩ (.bool false)) := (Frm.refl (· = fb) w1).setCell (p := ⟨fb, 6, none⟩) (fun _ => rfl) _
      refine ⟨rfl, ?_, (Frm.refl _ w1).setCell (fun _ => .inl rfl) _⟩
      exact { H.out with
        row := H.out.row.setCell 6 (.bool false)
        rows := H.out.rows.frm hset (fun e => hne e)
        placed := H.out.placed.frm hset (fun k hk e => H.out.nef (by rw [hk, e])) }
    · intro hJ
      have HJ := Lib.hid hJ
      clear hJ
      go_wp2_with fail
      go_step3
      go_step
      go_step
      exact HJ.out _ _ ⟨⟨_, _, _, _, _, _, _, _, _, _, _, _, _, _, _, _, _, _, _, _, _, _, _, _, _, _, _, _, _, _, _, _, _, _, _, _, _, _, _, _, _, _, rfl⟩, rfl⟩
  | true =>
    go_enter Tryd.func54, Tryd.ntmps54
    go_wp2_with fail
    refine wp_scope_one 0 rfl (fun a' w' => ∃ i : Nat, i ≤ n ∧ FrFresh fb i a' ∧ FrameIs w' fb n cols cut ds rb v true (freshTo n ds B i) ∧ Frm (fun k => k = fb ∨ k = rb ∨ w.heap.size ≤ k) w w') (fun a' _ => n - (intOf (a'.tmps.getD 2 undef)).toNat) ?_ ?_
    · rintro a w1 ⟨i, hi, ⟨u1, u3, u4, u5, u6, u7, u8, u9, u10, u11, u12, u13, u14, u15, u16, u17, u18, u19, u20, u21, u22, u23, u24, u25, u26, u27, u28, u29, u30, u31, u32, u33, u34, u35, u36, u37, u38, u39, u40, u41, u42, u43, rfl⟩, hI, hF⟩
      have c6 : w1.cell? ⟨fb, 6, none⟩ = some (.bool true) := hI.row.cell 6
      have c5 : w1.cell? ⟨fb, 5, none⟩ = some (.slice (some ⟨rb, 0, none⟩) n n) := hI.row.cell 5
      have f6 := hI.row.frozen 6
      have HI := Lib.hid hI
      have HF := Lib.hid hF
      clear hI hF
      by_cases hlt3 : i < n
      · have d1 : (i == n) = false := by simp; omega
        obtain ⟨cur, q1, q2, q3⟩ := HI.out.rows
        have hsrc : ∀ W : World, W.heap[rb]? = w1.heap[rb]? → (convert 89 9 (.slice (some ⟨rb, i * 255, none⟩) 191 255)).run Tryd.prog W = .ok (.string ⟨(bytesL 191 (fun c => dataB n ds i c)).toArray⟩) W := by
          intro W hW
          refine part_text (fun j hj => ?_) (fun j hj => dataB_lt _ _ _ _)
          rw [World.cell?_of_block (w := w1) (a := ⟨rb, i * 255 + j, none⟩) hW, HI.out.rows.byte hlt3 (by omega), HI.out.data i j hlt3 hj]
        have hsrc1 := hsrc w1 rfl
        have hz := bytesL_size 191 (fun c => dataB n ds i c)
        have he : encS ⟨(bytesL 191 (fun c => dataB n ds i c)).toArray⟩ = ⟨(bytesL 64 (parB n ds i)).toArray⟩ := by
          rw [encS_eq]
          unfold parB
          rw [encR_congr 191 (fun j hj => sb_bytesL hj (dataB_lt _ _ _ _))]
        have HE := Lib.hid he
        clear he hsrc
        generalize (⟨(bytesL 191 (fun c => dataB n ds i c)).toArray⟩ : ByteArray) = X at *
        have j1 : (i : Int) < (n : Int) := by omega
        have Q1 := Lib.hid q1
        have Q3 := Lib.hid q3
        clear q1 q3
        go_wp2_with fail
        refine (enc_calls _ X hz).mono ?_
        rw [HE.out]
        rintro e w2 ⟨rfl, hB2⟩
        have h64 := bytesL_size 64 (parB n ds i)
        have hI2 := HI.out.frm (Frm.of_below hB2) (by have := HI.out.row.lt; omega) (by have := HI.out.rows.lt; omega) (fun k hk => by have := HI.out.placed.lt k hk; omega)
        have hrow2 : w2.heap[rb]? = some (.cells cur 96 (0, 0)) := (hB2.block rb Q1.out.lt).trans Q1.out
        have HI2 := Lib.hid hI2
        have HF2 := Lib.hid (HF.out.step (Frm.of_below hB2) (fun k hk h => by have := HF.out.size; omega))
        have HW2 := Lib.hid hrow2
        have hy : (⟨(bytesL 64 (parB n ds i)).toArray⟩ : ByteArray).data.toList = bytesL 64 (parB n ds i) := by simp
        have HY := Lib.hid hy
        clear hI2 hB2 hrow2 hy c5 c6
        generalize (⟨(bytesL 64 (parB n ds i)).toArray⟩ : ByteArray) = Y at *
        go_wp2_with (refine wpList_copy_string rfl (.tmp 39) (.tmp 40) 89 9 rfl 5 Tryd.underlying89 (by kernel_rfl) rb (i * 255 + 191) 64 64 Y rfl rfl cur 96 HW2.out ?_ ?_ ?_)
        case refine_1 => omega
        case refine_2 => omega
        case refine_3 =>
          intro w3 hw3 hF3
          have hF3 := hF3.out
          have hrows3 := frows_copied (B := freshTo n ds B i) (f := parB n ds i) q2 Q3.out hlt3 (fun j _ => parB_lt _ _ _ _) (by have hx := hw3.out; rw [HY.out, ← List.append_assoc] at hx; exact hx)
          have hrows4 : FRows w3 rb n (freshTo n ds B (i + 1)) := hrows3.congr (fun r c hr hc => by
            unfold freshTo
            by_cases e1 : 191 ≤ c
            · by_cases e2 : r = i
              · subst e2; rw [if_pos ⟨by omega, e1⟩, if_pos ⟨rfl, e1⟩]
              · by_cases e3 : r < i
                · rw [if_pos ⟨by omega, e1⟩, if_neg (fun h => e2 h.1), if_pos ⟨e3, e1⟩]
                · rw [if_neg (by omega), if_neg (fun h => e2 h.1), if_neg (by omega)]
            · rw [if_neg (by omega), if_neg (fun h => e1 h.2), if_neg (by omega)])
          have hi3 : FrameIs w3 fb n cols cut ds rb v true (freshTo n ds B (i + 1)) :=
            { HI2.out with
              row := HI2.out.row.frm hF3 (fun e => hne e.symm)
              rows := hrows4
              placed := HI2.out.placed.frm hF3 (fun k hk e => HI2.out.ner (by rw [hk, e]))
              byte := fun r c => by unfold freshTo; split; exact parB_lt _ _ _ _; exact H.out.byte r c
              data := fun r c hr hc => by unfold freshTo; rw [if_neg (by omega)]; exact H.out.data r c hr hc
              fresh := fun h => by cases h }
          have HI3 := Lib.hid hi3
          have HF3 := Lib.hid (HF2.out.step hF3 (fun k hk h => .inr (.inl h)))
          clear hrows3 hrows4 hi3 hF3 hw3
          go_wp2_with fail
          go_step3
          exact ⟨rfl, ⟨i + 1, by omega, ⟨_, _, _, _, _, _, _, _, _, _, _, _, _, _, _, _, _, _, _, _, _, _, _, _, _, _, _, _, _, _, _, _, _, _, _, _, _, _, _, _, _, _, rfl⟩, HI3.out, HF3.out⟩, by simp [intOf]; omega⟩
      · obtain rfl : i = n := by omega
        have d1 : (i == i) = true := by simp
        go_wp2_with fail
        refine jumps_ret ?_
        refine bodyPost_ret (results_none rfl _ _ _) rfl ?_
        refine ⟨rfl, ?_, HF.out.setCell (fun _ => .inl rfl) _⟩
        have hset : Frm (· = fb) w1 (w1.setCell ⟨fb, 6, none⟩ (.bool false)) := (Frm.refl (· = fb) w1).setCell (p := ⟨fb, 6, none⟩) (fun _ => rfl) _
        exact { HI.out with
          row := HI.out.row.setCell 6 (.bool false)
          rows := HI.out.rows.frm hset (fun e => hne e)
          placed := HI.out.placed.frm hset (fun k hk e => HI.out.nef (by rw [hk, e]))
          fresh := fun _ r c hr h191 hc => by show freshTo i ds B i r c = _; unfold freshTo; rw [if_pos ⟨hr, h191⟩] }
    · intro hJ
      have HJ := Lib.hid hJ
      clear hJ
      go_wp2_with fail
      go_step3
      go_step
      go_step
      exact HJ.out _ _ ⟨0, Nat.zero_le _, ⟨_, _, _, _, _, _, _, _, _, _, _, _, _, _, _, _, _, _, _, _, _, _, _, _, _, _, _, _, _, _, _, _, _, _, _, _, _, _, _, _, _, _, rfl⟩, by rw [show freshTo n ds B 0 = B from by funext r c; unfold freshTo; rw [if_neg (by omega)]]; exact H.out, Frm.refl _ _⟩
end Go.Proofs.YtmfpmgelhhbfiaaDoor
