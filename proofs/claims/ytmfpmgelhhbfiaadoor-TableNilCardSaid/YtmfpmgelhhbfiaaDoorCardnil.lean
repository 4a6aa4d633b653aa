/- The law TableNil holds: a nil table has nothing, whatever is asked. No further conditions: every input that the row reads. -/
import Derived.Test.YtmfpmgelhhbfiaaDoorClose
import Derived.Test.YtmfpmgelhhbfiaaDoorLawnil
namespace Go.Proofs.YtmfpmgelhhbfiaaDoor.tableNil
open Go.ChangeShapes Go.WideShapes Go.ChangeAt Go.RowKit
set_option maxRecDepth 100000

theorem own : ownKnob Tryd.prog.godebug = none := by kernel_rfl
theorem gSizes : Tryd.prog.globalNamed "clarion/table.sizes" = some 1 := by kernel_rfl
theorem gSizesType : (Tryd.prog.globals[1]?).map (·.type) = some 90 := by kernel_rfl
theorem cells4 : Tryd.prog.cellsOf 90 = 4 := by kernel_rfl
theorem cells1 : Tryd.prog.cellsOf 3 = 1 := by kernel_rfl
theorem laidOut : laidOutB Tryd.prog = true := by kernel_rfl

/-- One entry of the list, put first. -/
theorem laid_tail {P : Program} {a : String × DataW Unit} {l : List (String × DataW Unit)} {W : World} (h : laidMet P (a :: l) W) : laidMet P l W := by
  obtain ⟨ps, ⟨g, t, cs, fuel, p, q, _, _, _, _, hq, rfl⟩, hn, hc⟩ := h
  exact ⟨q, hq, (List.nodup_append.1 hn).2.1, fun b off hb => hc b off (List.mem_append.2 (.inr hb))⟩

/-- The second entry of three is the table of sizes. -/
theorem sizes_second {a c : String × DataW Unit} {W : World} (h : laidMet Tryd.prog (a :: ("clarion/table.sizes", Lib.tabData .i64 [256, 512, 768, 1024]) :: [c]) W) : SizesAt W 1 := by
  have ht := Lib.tabIs_of_head gSizes gSizesType Tryd.underlying90 Tryd.underlying3 cells1 cells4 (laid_tail h)
  intro j hj
  rw [Nat.zero_add]
  exact ht.cell gSizes j hj
theorem sizes_data : (Rows.laid_clarion_table_sizes : DataW Unit) = Lib.tabData .i64 [256, 512, 768, 1024] := by kernel_rfl

theorem sizes_met {W : World} (h : laidMetH Tryd.prog Rows.tableNilRow.laid W) : SizesAt W 1 := by
  have h0 : laidMet Tryd.prog (("unicode/utf8.acceptRanges", Rows.laid_unicode_utf8_acceptRanges) :: ("clarion/table.sizes", Rows.laid_clarion_table_sizes) :: [("unicode/utf8.first", Rows.laid_unicode_utf8_first)]) W := h
  rw [sizes_data] at h0
  exact sizes_second h0

/-- What a struct of a call reads as. -/
theorem open_op {H : Type} {enc : TypeId × Value → H} {W : World} {b0 : Nat} {v : Value} {d : DataW H} {p : List MemPlace} (hv : Value.okWide Tryd.prog W .any b0 42 v)
    (h : DataW.Trod enc Tryd.prog W 0 (fun _ => true) true 42 v d p) : ∃ (a q n b : Int) (t : ByteArray), v = opV a q n b t ∧ 0 ≤ b ∧ b < 256 := by
  obtain ⟨cs, rfl, hsz⟩ := okWide_struct Tryd.underlying42 hv
  have hC : Tryd.prog.cellsOf 42 = 5 := by kernel_rfl
  have hC1 : Tryd.prog.cellsOf 3 = 1 := by kernel_rfl
  have hC2 : Tryd.prog.cellsOf 5 = 1 := by kernel_rfl
  have hC3 : Tryd.prog.cellsOf 9 = 1 := by kernel_rfl
  obtain ⟨l⟩ := cs
  match l, hsz.trans hC with
  | [c0, c1, c2, c3, c4], _ =>
    obtain ⟨fuel, hf⟩ := h
    obtain ⟨xs, m, _, _, _, hlen, hg⟩ := DataW.trod_struct Tryd.underlying42 hf
    match xs, hlen with
    | [y0, y1, y2, y3, y4], _ =>
      have g0 : DataW.trod enc Tryd.prog W 0 (fun _ => true) true m 3 (List.take (Tryd.prog.cellsOf 3) (List.drop 0 [c0, c1, c2, c3, c4])) = some y0 := hg 0 _ rfl
      have g1 : DataW.trod enc Tryd.prog W 0 (fun _ => true) true m 3 (List.take (Tryd.prog.cellsOf 3) (List.drop 1 [c0, c1, c2, c3, c4])) = some y1 := hg 1 _ rfl
      have g2 : DataW.trod enc Tryd.prog W 0 (fun _ => true) true m 3 (List.take (Tryd.prog.cellsOf 3) (List.drop 2 [c0, c1, c2, c3, c4])) = some y2 := hg 2 _ rfl
      have g3 : DataW.trod enc Tryd.prog W 0 (fun _ => true) true m 5 (List.take (Tryd.prog.cellsOf 5) (List.drop 3 [c0, c1, c2, c3, c4])) = some y3 := hg 3 _ rfl
      have g4 : DataW.trod enc Tryd.prog W 0 (fun _ => true) true m 9 (List.take (Tryd.prog.cellsOf 9) (List.drop 4 [c0, c1, c2, c3, c4])) = some y4 := hg 4 _ rfl
      rw [hC1] at g0 g1 g2
      rw [hC2] at g3
      rw [hC3] at g4
      obtain ⟨a, e0, _, _⟩ := DataW.trod_int Tryd.underlying3 g0
      obtain ⟨q, e1, _, _⟩ := DataW.trod_int Tryd.underlying3 g1
      obtain ⟨n, e2, _, _⟩ := DataW.trod_int Tryd.underlying3 g2
      obtain ⟨b, e3, _, hb⟩ := DataW.trod_int Tryd.underlying5 g3
      obtain ⟨t, e4, _, _⟩ := DataW.trod_string Tryd.underlying9 g4
      simp at e0 e1 e2 e3 e4
      subst e0 e1 e2 e3 e4
      have hw : 0 ≤ b ∧ b < 256 := by
        simp only [Lit.wf, Bool.and_eq_true, decide_eq_true_eq] at hb
        have h1 : IntKind.min .u8 = 0 := by decide
        have h2 : IntKind.max .u8 = 255 := by decide
        omega
      exact ⟨a, q, n, b, t, rfl, hw⟩

theorem readable : ∀ t, t ∈ Tryd.f4.params.toList → Tryd.prog.readableRec t = true ∧ t < Tryd.prog.types.size := by
  have h : (Tryd.f4.params.toList.all fun t => Tryd.prog.readableRec t && decide (t < Tryd.prog.types.size)) = true := by kernel_rfl
  intro t ht
  simpa using List.all_eq_true.1 h t ht

theorem contract (H : Type) (enc : TypeId × Value → H) (W : World) (base : Nat) (args : Array Value) (ds gs : List (DataW H)) (before : List MemPlace)
    (hval : ∀ (j : Nat) t v, Tryd.f4.params[j]? = some t → args[j]? = some v → Value.okWide Tryd.prog W .any base t v)
    (hW : DataW.Whole enc Tryd.prog Tryd.f4.params.toList Rows.tableNilSpec.vars false W args.toList ds gs before) (hL : laidMetH Tryd.prog Rows.tableNilRow.laid W) :
    Calls Tryd.prog 4 args W fun e W' => ∃ v, e = .returned v ∧ Rows.tableNilSpec.post enc Tryd.prog Tryd.f4 false true false false W args v W' := by
  have hW' := hW
  obtain ⟨p, q, hA0, hV, rfl, hfz, hnd⟩ := hW
  obtain ⟨rfl, rfl⟩ := trodVars_none hV
  rw [List.append_nil] at hW'
  have hA : DataW.TrodAll enc Tryd.prog W 0 (fun _ => true) true Tryd.f4.params.toList args.toList ds p := hA0
  have hA2 := hA
  rw [Tryd.params4] at hA hval
  obtain ⟨v0, vs0, d0, ds0, p0, q0, hargs, rfl, rfl, h0, r0⟩ := trodAll_cons hA
  obtain ⟨v1, vs1, d1, ds1, p1, q1, rfl, rfl, rfl, h1, r1⟩ := trodAll_cons r0
  obtain ⟨rfl, rfl, rfl⟩ := trodAll_nil r1
  obtain rfl : args = #[v0, v1] := by cases args; simp_all
  obtain ⟨a, qq, n, b, t, rfl, hb⟩ := open_op (hval 0 _ v0 rfl rfl) h0
  obtain ⟨x, rfl, rfl, rfl, _⟩ := open_int Tryd.underlying3 (hval 1 _ v1 rfl rfl) h1
  refine (law_nil W a qq n b t x hb (sizes_met hL)).mono fun e W' ⟨he, hB⟩ => ?_
  subst he
  exact ⟨_, rfl, law_post (s := Rows.tableNilSpec) laidOut rfl rfl readable rfl Tryd.underlying4 hA2 hW' hB⟩

/-- A datum's cells. -/
def cellsIn : DataW Unit → List Value
  | .lit (.int k n) => [.int k n]
  | _ => []
def pairIn : DataW Unit → List Value
  | .agg l => l.flatMap cellsIn
  | _ => []
def tabCells : DataW Unit → Array Value
  | .agg l => (l.flatMap cellsIn).toArray
  | _ => #[]
def pairCells : DataW Unit → Array Value
  | .agg l => (l.flatMap pairIn).toArray
  | _ => #[]

def witArgs : Array Value := #[opV 0 0 0 0 ⟨#[]⟩, .int .i64 0]
def layBlock (i : Nat) (cur : Array Value) (h : Array Obj) : Array Obj := h.modify i fun
  | .cells _ t frozen => .cells cur t frozen
  | o => o
/-- A world for the witness: the settled one, the tables holding what their text lays. -/
noncomputable def laidWorld (os : Os) : World :=
  { World.holding Tryd.prog os ⟨#[], #[], []⟩ with heap := layBlock 1 (tabCells Rows.laid_clarion_table_sizes) (layBlock 3 (tabCells Rows.laid_unicode_utf8_first) (layBlock 4 (pairCells Rows.laid_unicode_utf8_acceptRanges) (World.holding Tryd.prog os ⟨#[], #[], []⟩).heap)) }
theorem laid_met (os : Os) : laidMet Tryd.prog Rows.tableNilRow.laid ((laidWorld os).forCall (fun _ _ => 0) ⟨#[], witArgs, []⟩).memory :=
  laidMet_of_run' 8 (by kernel_rfl) (by kernel_rfl)
def witData {H : Type} : List (DataW H) := [.agg [.lit (.int .i64 0), .lit (.int .i64 0), .lit (.int .i64 0), .lit (.int .u8 0), .lit (.string [])], .lit (.int .i64 0)]
theorem reads (os : Os) {H : Type} (enc : TypeId × Value → H) : ∃ places, DataW.whole enc Tryd.prog ((laidWorld os).forCall (fun _ _ => 0) ⟨#[], witArgs, []⟩).memory Tryd.f4.params.toList Rows.tableNilSpec.vars false witArgs.toList 8 = some (witData, [], places) :=
  ⟨[], by kernel_rfl⟩

theorem lifted (os : Os) (started : os.Started) (H : Type) (enc : TypeId × Value → H) (F : Stop.Interp) :
    ReturnsInHanded {} Tryd.checked os 4 .any ((OpenSpec.ofChange Rows.tableNilSpec).preRow enc Tryd.prog Tryd.f4 Rows.tableNilRow.domain false Rows.tableNilRow.laid) (((OpenSpec.ofChange Rows.tableNilSpec).at F).post enc Tryd.prog Tryd.f4 false true false false) := by
  obtain ⟨places, hx⟩ := reads os enc
  refine returnsInHanded_of_row (C := Tryd.checked) (s := OpenSpec.ofChange Rows.tableNilSpec) own started (by kernel_rfl) Tryd.func4
    (witness_row_at (enc := enc) (C := Tryd.checked) false (laidWorld os) witArgs rfl (by kernel_rfl) (by kernel_rfl) (by kernel_rfl)
      (OpenSpec.preRow_of_cond 8 hx (by kernel_rfl) (fun k hk => by cases hk) (by kernel_rfl) (laid_met os))) ?_
  intro W base args ds gs before hval hW _ _ _ hL _ _
  exact contract H enc W base args ds gs before hval hW hL

theorem said : Rows.TableNilSaid :=
  OpenClaim.holds_of_cond 4 Tryd.f4 rfl rfl rfl rfl rfl rfl rfl ⟨rfl, rfl, rfl, rfl, rfl⟩ rfl rfl rfl rfl rfl (by kernel_rfl) Tryd.func4 (by kernel_rfl)
    (of_decide_eq_true (by kernel_rfl)) (by unfold Func.isWrapper; first | (rw [if_pos (by decide +kernel)]; kernel_rfl) | (rw [if_neg (by decide +kernel)]; exact ⟨rfl, rfl⟩))
    (fun os started H enc _ F => by rw [OpenClaim.pre_eq_preRow]; exact lifted os started H enc F)

theorem plain (f : FuncId) (fn : Func) (hf : Tryd.pinned.checked.prog.funcNamed "clarion/clarionlaw13.TableNil" = some f) (hfn : Tryd.pinned.checked.prog.funcs[f]? = some fn) :
    false = Tryd.pinned.checked.prog.looks [] ∧ ∀ (j : Nat) t, fn.params[j]? = some t → Tryd.pinned.checked.prog.wantsStandIn t = false := by
  obtain rfl : f = 4 := Option.some.inj ((show Tryd.prog.funcNamed "clarion/clarionlaw13.TableNil" = some 4 by kernel_rfl).symm.trans hf) |>.symm
  obtain rfl : fn = Tryd.f4 := (Option.some.inj (Tryd.func4.symm.trans hfn)).symm
  refine ⟨by kernel_rfl, fun j t ht => ?_⟩
  have h : (Tryd.f4.params.toList.all fun u => !Tryd.prog.wantsStandIn u) = true := by kernel_rfl
  have hm : t ∈ Tryd.f4.params.toList := Array.mem_toList_iff.2 (Array.mem_of_getElem? ht)
  exact (show Tryd.prog.wantsStandIn t = false by simpa using List.all_eq_true.1 h t hm)

/-- The card: TableNil, its variables tied to the program's text. -/
theorem card : Rows.TableNilCardSaid :=
  Claim7.holds_tied_plain_at .later [] _ _ _ _ said (fun _ h => by cases h) (by kernel_rfl) (fun _ h => by cases h) tableNil_row_tie rfl ⟨rfl, rfl⟩ (by kernel_rfl) rfl plain (by kernel_rfl)
#print axioms card

end Go.Proofs.YtmfpmgelhhbfiaaDoor.tableNil
