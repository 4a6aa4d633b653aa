/- The law TableSafe holds: what came whole is told, whatever is lost, and nothing that is not of the frame. No further conditions: every input that the row reads. -/
import Derived.Test.YtmfpmgelhhbfiaaDoorClose
import Derived.Test.YtmfpmgelhhbfiaaDoorLawsafe
import Derived.ChangeSlices
namespace Go.Proofs.YtmfpmgelhhbfiaaDoor.tableSafe
open Go.ChangeShapes Go.WideShapes Go.ChangeAt Go.RowKit
set_option maxRecDepth 100000

theorem own : ownKnob Tryd.prog.godebug = none := by kernel_rfl
theorem gSizes : Tryd.prog.globalNamed "clarion/table.sizes" = some 1 := by kernel_rfl
theorem gSizesType : (Tryd.prog.globals[1]?).map (·.type) = some 90 := by kernel_rfl
theorem cells4 : Tryd.prog.cellsOf 90 = 4 := by kernel_rfl
theorem cells1 : Tryd.prog.cellsOf 3 = 1 := by kernel_rfl
theorem laidOut : laidOutB Tryd.prog = true := by kernel_rfl

/-- One entry of the list, put first. -/
theorem laid_tail {P : Program} {a : String × DataW Unit} {l : List (String × DataW Unit)} {W : World} (h : laidMet P (a :: l) W) : laidMet P l W := by
  obtain ⟨ps, ⟨g, t, cs, fuel, p, q, _, _, _, _, hq, rfl⟩, hn, hc⟩ := h
  exact ⟨q, hq, (List.nodup_append.1 hn).2.1, fun b off hb => hc b off (List.mem_append.2 (.inr hb))⟩

theorem gSizesF : Tryd.prog.globalNamed "clarion/frame.sizes" = some 0 := by kernel_rfl
theorem gSizesFType : (Tryd.prog.globals[0]?).map (·.type) = some 90 := by kernel_rfl
theorem sizes_dataF : (Rows.laid_clarion_frame_sizes : DataW Unit) = Lib.tabData .i64 [256, 512, 768, 1024] := by kernel_rfl
theorem sizes_data : (Rows.laid_clarion_table_sizes : DataW Unit) = Lib.tabData .i64 [256, 512, 768, 1024] := by kernel_rfl

theorem sizes_met {W : World} (h : laidMetH Tryd.prog Rows.tableSafeRow.laid W) : SizesF W 0 ∧ SizesAt W 1 := by
  have h0 : laidMet Tryd.prog (("unicode/utf8.acceptRanges", Rows.laid_unicode_utf8_acceptRanges) :: ("clarion/frame.sizes", Rows.laid_clarion_frame_sizes) :: ("clarion/table.sizes", Rows.laid_clarion_table_sizes) :: [("unicode/utf8.first", Rows.laid_unicode_utf8_first)]) W := h
  rw [sizes_data, sizes_dataF] at h0
  have h1 := laid_tail h0
  have t1 := Lib.tabIs_of_head gSizesF gSizesFType Tryd.underlying90 Tryd.underlying3 cells1 cells4 h1
  have t2 := Lib.tabIs_of_head gSizes gSizesType Tryd.underlying90 Tryd.underlying3 cells1 cells4 (laid_tail h1)
  refine ⟨fun j hj => ?_, fun j hj => ?_⟩
  · rw [Nat.zero_add]
    exact t1.cell gSizesF j hj
  · rw [Nat.zero_add]
    exact t2.cell gSizes j hj

/-- A slice of ints that is read. -/
theorem open_arg {H : Type} {enc : TypeId × Value → H} {W : World} {fuel : Nat} {c : Value} {x : DataW H × List MemPlace} (h : DataW.trod enc Tryd.prog W 0 (fun _ => true) true fuel 24 [c] = some x) : ∃ l, ArgInts W c l := by
  rcases open_ints Tryd.underlying24 Tryd.underlying3 cells1 h with ⟨hcs, _⟩ | ⟨a, len, cap, zs, hcs, _, hl, hm, hz, _, hcell, _⟩
  · simp at hcs
    subst hcs
    exact ⟨[], none, 0, rfl, by simp, fun j x hj => by simp at hj⟩
  · simp at hcs
    subst hcs
    simp only [if_true] at hz
    refine ⟨zs.take len, some a, cap, by rw [List.length_take, Nat.min_eq_left (by omega)], by rw [List.length_take]; omega, fun j x hj => ?_⟩
    have hj2 : j < len ∧ zs[j]? = some x := by
      rw [List.getElem?_take] at hj
      split at hj
      · exact ⟨by assumption, hj⟩
      · cases hj
    obtain ⟨b, off, spot⟩ := a
    have hspot : spot = none := by simpa [Addr.add] using World.cell?_spot (hcell 0 (by omega))
    subst hspot
    have hc := hcell j (by omega)
    rw [show (⟨b, off, none⟩ : Addr).add j = ⟨b, off + j, none⟩ by unfold Addr.add; split <;> simp_all] at hc
    rw [List.getD_eq_getElem?_getD, hj2.2] at hc
    exact ⟨b, off, rfl, World.block_lt_of_cell? W _ hc, hc⟩

theorem open_slice_arg {H : Type} {enc : TypeId × Value → H} {W : World} {b0 : Nat} {v : Value} {d : DataW H} {p : List MemPlace} (hv : Value.okWide Tryd.prog W .any b0 24 v)
    (h : DataW.Trod enc Tryd.prog W 0 (fun _ => true) true 24 v d p) : ∃ l, ArgInts W v l := by
  obtain ⟨a0, len, cap, rfl⟩ := okWide_slice Tryd.underlying24 hv
  obtain ⟨fuel, hf⟩ := h
  exact open_arg hf

theorem open_cfg {H : Type} {enc : TypeId × Value → H} {W : World} {b0 : Nat} {v : Value} {d : DataW H} {p : List MemPlace} (hv : Value.okWide Tryd.prog W .any b0 23 v)
    (h : DataW.Trod enc Tryd.prog W 0 (fun _ => true) true 23 v d p) : ∃ n cols cut : Int, v = cfgV n cols cut := by
  obtain ⟨cs, rfl, hsz⟩ := okWide_struct Tryd.underlying23 hv
  have hC : Tryd.prog.cellsOf 23 = 3 := by kernel_rfl
  obtain ⟨l⟩ := cs
  match l, hsz.trans hC with
  | [c0, c1, c2], _ =>
    obtain ⟨fuel, hf⟩ := h
    obtain ⟨xs, m, _, _, _, hlen, hg⟩ := DataW.trod_struct Tryd.underlying23 hf
    match xs, hlen with
    | [y0, y1, y2], _ =>
      have g0 : DataW.trod enc Tryd.prog W 0 (fun _ => true) true m 3 (List.take (Tryd.prog.cellsOf 3) (List.drop 0 [c0, c1, c2])) = some y0 := hg 0 _ rfl
      have g1 : DataW.trod enc Tryd.prog W 0 (fun _ => true) true m 3 (List.take (Tryd.prog.cellsOf 3) (List.drop 1 [c0, c1, c2])) = some y1 := hg 1 _ rfl
      have g2 : DataW.trod enc Tryd.prog W 0 (fun _ => true) true m 3 (List.take (Tryd.prog.cellsOf 3) (List.drop 2 [c0, c1, c2])) = some y2 := hg 2 _ rfl
      rw [cells1] at g0 g1 g2
      obtain ⟨a, e0, _, _⟩ := DataW.trod_int Tryd.underlying3 g0
      obtain ⟨q, e1, _, _⟩ := DataW.trod_int Tryd.underlying3 g1
      obtain ⟨n, e2, _, _⟩ := DataW.trod_int Tryd.underlying3 g2
      simp at e0 e1 e2
      subst e0 e1 e2
      exact ⟨a, q, n, rfl⟩

theorem open_loss {H : Type} {enc : TypeId × Value → H} {W : World} {b0 : Nat} {v : Value} {d : DataW H} {p : List MemPlace} (hv : Value.okWide Tryd.prog W .any b0 26 v)
    (h : DataW.Trod enc Tryd.prog W 0 (fun _ => true) true 26 v d p) : ∃ (vG vP : Value) (pad : Bool) (G P : List Int), v = lossV vG vP pad ∧ ArgInts W vG G ∧ ArgInts W vP P := by
  obtain ⟨cs, rfl, hsz⟩ := okWide_struct Tryd.underlying26 hv
  have hC : Tryd.prog.cellsOf 26 = 3 := by kernel_rfl
  have hC1 : Tryd.prog.cellsOf 24 = 1 := by kernel_rfl
  have hC2 : Tryd.prog.cellsOf 4 = 1 := by kernel_rfl
  obtain ⟨l⟩ := cs
  match l, hsz.trans hC with
  | [c0, c1, c2], _ =>
    obtain ⟨fuel, hf⟩ := h
    obtain ⟨xs, m, _, _, _, hlen, hg⟩ := DataW.trod_struct Tryd.underlying26 hf
    match xs, hlen with
    | [y0, y1, y2], _ =>
      have g0 : DataW.trod enc Tryd.prog W 0 (fun _ => true) true m 24 (List.take (Tryd.prog.cellsOf 24) (List.drop 0 [c0, c1, c2])) = some y0 := hg 0 _ rfl
      have g1 : DataW.trod enc Tryd.prog W 0 (fun _ => true) true m 24 (List.take (Tryd.prog.cellsOf 24) (List.drop 1 [c0, c1, c2])) = some y1 := hg 1 _ rfl
      have g2 : DataW.trod enc Tryd.prog W 0 (fun _ => true) true m 4 (List.take (Tryd.prog.cellsOf 4) (List.drop 2 [c0, c1, c2])) = some y2 := hg 2 _ rfl
      rw [hC1] at g0 g1
      rw [hC2] at g2
      obtain ⟨G, hG⟩ := open_arg (c := c0) (by simpa using g0)
      obtain ⟨P, hP⟩ := open_arg (c := c1) (by simpa using g1)
      obtain ⟨b, e2, _, _⟩ := DataW.trod_bool Tryd.underlying4 g2
      simp at e2
      subst e2
      exact ⟨c0, c1, b, G, P, rfl, hG, hP⟩

theorem readable : ∀ t, t ∈ Tryd.f3.params.toList → Tryd.prog.readableRec t = true ∧ t < Tryd.prog.types.size := by
  have h : (Tryd.f3.params.toList.all fun t => Tryd.prog.readableRec t && decide (t < Tryd.prog.types.size)) = true := by kernel_rfl
  intro t ht
  simpa using List.all_eq_true.1 h t ht

theorem contract (H : Type) (enc : TypeId × Value → H) (W : World) (base : Nat) (args : Array Value) (ds gs : List (DataW H)) (before : List MemPlace)
    (hval : ∀ (j : Nat) t v, Tryd.f3.params[j]? = some t → args[j]? = some v → Value.okWide Tryd.prog W .any base t v)
    (hW : DataW.Whole enc Tryd.prog Tryd.f3.params.toList Rows.tableSafeSpec.vars false W args.toList ds gs before) (hL : laidMetH Tryd.prog Rows.tableSafeRow.laid W) :
    Calls Tryd.prog 3 args W fun e W' => ∃ v, e = .returned v ∧ Rows.tableSafeSpec.post enc Tryd.prog Tryd.f3 false true false false W args v W' := by
  have hW' := hW
  obtain ⟨p, q, hA0, hV, rfl, hfz, hnd⟩ := hW
  obtain ⟨rfl, rfl⟩ := trodVars_none hV
  rw [List.append_nil] at hW'
  have hA : DataW.TrodAll enc Tryd.prog W 0 (fun _ => true) true Tryd.f3.params.toList args.toList ds p := hA0
  have hA2 := hA
  rw [Tryd.params3] at hA hval
  obtain ⟨v0, vs0, d0, ds0, p0, q0, hargs, rfl, rfl, h0, r0⟩ := trodAll_cons hA
  obtain ⟨v1, vs1, d1, ds1, p1, q1, rfl, rfl, rfl, h1, r1⟩ := trodAll_cons r0
  obtain ⟨v2, vs2, d2, ds2, p2, q2, rfl, rfl, rfl, h2, r2⟩ := trodAll_cons r1
  obtain ⟨rfl, rfl, rfl⟩ := trodAll_nil r2
  obtain rfl : args = #[v0, v1, v2] := by cases args; simp_all
  obtain ⟨n, cols, cut, rfl⟩ := open_cfg (hval 0 _ v0 rfl rfl) h0
  obtain ⟨l, hl⟩ := open_slice_arg (hval 1 _ v1 rfl rfl) h1
  obtain ⟨vG, vP, pad, G, P, rfl, hG, hP⟩ := open_loss (hval 2 _ v2 rfl rfl) h2
  obtain ⟨hT, hT2⟩ := sizes_met hL
  refine (law_safe W n cols cut v1 vG vP l G P pad hl hG hP hT hT2).mono fun e W' ⟨he, hB⟩ => ?_
  subst he
  exact ⟨_, rfl, law_post (s := Rows.tableSafeSpec) laidOut rfl rfl readable rfl Tryd.underlying4 hA2 hW' hB⟩

/-- A datum's cells. -/
def cellsIn : DataW Unit → List Value
  | .lit (.int k n) => [.int k n]
  | _ => []
def pairIn : DataW Unit → List Value
  | .agg l => l.flatMap cellsIn
  | _ => []
def tabCells : DataW Unit → Array Value
  | .agg l => (l.flatMap cellsIn).toArray
  | _ => #[]
def pairCells : DataW Unit → Array Value
  | .agg l => (l.flatMap pairIn).toArray
  | _ => #[]

def witArgs : Array Value := #[cfgV 0 0 0, .slice none 0 0, lossV (.slice none 0 0) (.slice none 0 0) false]
def layBlock (i : Nat) (cur : Array Value) (h : Array Obj) : Array Obj := h.modify i fun
  | .cells _ t frozen => .cells cur t frozen
  | o => o
/-- A world for the witness: the settled one, the tables holding what their text lays. -/
noncomputable def laidWorld (os : Os) : World :=
  { World.holding Tryd.prog os ⟨#[], #[], []⟩ with heap := layBlock 1 (tabCells Rows.laid_clarion_table_sizes) (layBlock 0 (tabCells Rows.laid_clarion_frame_sizes) (layBlock 3 (tabCells Rows.laid_unicode_utf8_first) (layBlock 4 (pairCells Rows.laid_unicode_utf8_acceptRanges) (World.holding Tryd.prog os ⟨#[], #[], []⟩).heap))) }
theorem laid_met (os : Os) : laidMet Tryd.prog Rows.tableSafeRow.laid ((laidWorld os).forCall (fun _ _ => 0) ⟨#[], witArgs, []⟩).memory :=
  laidMet_of_run' 8 (by kernel_rfl) (by kernel_rfl)
def witData {H : Type} : List (DataW H) := [.agg [.lit (.int .i64 0), .lit (.int .i64 0), .lit (.int .i64 0)], .nil, .agg [.nil, .nil, .lit (.bool false)]]
theorem reads (os : Os) {H : Type} (enc : TypeId × Value → H) : ∃ places, DataW.whole enc Tryd.prog ((laidWorld os).forCall (fun _ _ => 0) ⟨#[], witArgs, []⟩).memory Tryd.f3.params.toList Rows.tableSafeSpec.vars false witArgs.toList 8 = some (witData, [], places) :=
  ⟨[], by kernel_rfl⟩

theorem lifted (os : Os) (started : os.Started) (H : Type) (enc : TypeId × Value → H) (F : Stop.Interp) :
    ReturnsInHanded {} Tryd.checked os 3 .any ((OpenSpec.ofChange Rows.tableSafeSpec).preRow enc Tryd.prog Tryd.f3 Rows.tableSafeRow.domain false Rows.tableSafeRow.laid) (((OpenSpec.ofChange Rows.tableSafeSpec).at F).post enc Tryd.prog Tryd.f3 false true false false) := by
  obtain ⟨places, hx⟩ := reads os enc
  refine returnsInHanded_of_row (C := Tryd.checked) (s := OpenSpec.ofChange Rows.tableSafeSpec) own started (by kernel_rfl) Tryd.func3
    (witness_row_at (enc := enc) (C := Tryd.checked) false (laidWorld os) witArgs rfl (by kernel_rfl) (by kernel_rfl) (by kernel_rfl)
      (OpenSpec.preRow_of_cond 8 hx (by kernel_rfl) (fun k hk => by cases hk) (by kernel_rfl) (laid_met os))) ?_
  intro W base args ds gs before hval hW _ _ _ hL _ _
  exact contract H enc W base args ds gs before hval hW hL

theorem said : Rows.TableSafeSaid :=
  OpenClaim.holds_of_cond 3 Tryd.f3 rfl rfl rfl rfl rfl rfl rfl ⟨rfl, rfl, rfl, rfl, rfl⟩ rfl rfl rfl rfl rfl (by kernel_rfl) Tryd.func3 (by kernel_rfl)
    (of_decide_eq_true (by kernel_rfl)) (by unfold Func.isWrapper; first | (rw [if_pos (by decide +kernel)]; kernel_rfl) | (rw [if_neg (by decide +kernel)]; exact ⟨rfl, rfl⟩))
    (fun os started H enc _ F => by rw [OpenClaim.pre_eq_preRow]; exact lifted os started H enc F)

theorem plain (f : FuncId) (fn : Func) (hf : Tryd.pinned.checked.prog.funcNamed "clarion/clarionlaw13.TableSafe" = some f) (hfn : Tryd.pinned.checked.prog.funcs[f]? = some fn) :
    false = Tryd.pinned.checked.prog.looks [] ∧ ∀ (j : Nat) t, fn.params[j]? = some t → Tryd.pinned.checked.prog.wantsStandIn t = false := by
  obtain rfl : f = 3 := Option.some.inj ((show Tryd.prog.funcNamed "clarion/clarionlaw13.TableSafe" = some 3 by kernel_rfl).symm.trans hf) |>.symm
  obtain rfl : fn = Tryd.f3 := (Option.some.inj (Tryd.func3.symm.trans hfn)).symm
  refine ⟨by kernel_rfl, fun j t ht => ?_⟩
  have h : (Tryd.f3.params.toList.all fun u => !Tryd.prog.wantsStandIn u) = true := by kernel_rfl
  have hm : t ∈ Tryd.f3.params.toList := Array.mem_toList_iff.2 (Array.mem_of_getElem? ht)
  exact (show Tryd.prog.wantsStandIn t = false by simpa using List.all_eq_true.1 h t hm)

/-- The card: TableSafe, its variables tied to the program's text. -/
theorem card : Rows.TableSafeCardSaid :=
  Claim7.holds_tied_plain_at .later [] _ _ _ _ said (fun _ h => by cases h) (by kernel_rfl) (fun _ h => by cases h) tableSafe_row_tie rfl ⟨rfl, rfl⟩ (by kernel_rfl) rfl plain (by kernel_rfl)
#print axioms card

end Go.Proofs.YtmfpmgelhhbfiaaDoor.tableSafe
