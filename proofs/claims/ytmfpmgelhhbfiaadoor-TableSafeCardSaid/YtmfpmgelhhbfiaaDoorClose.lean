/- From a law's contract to its row: plain arguments, nothing that was there has turned. -/
import Derived.Test.YtmfpmgelhhbfiaaDoorCards
import Derived.Test.YtmfpmgelhhbfiaaDoorTie
import Derived.Test.YtmfpmgelhhbfiaaDoorNewt
import Derived.WalkKit
import Derived.ProofKit
import Derived.OpenShut
import Derived.Deep.DeepHandedRow
import Derived.Lib.LaidTab
import Derived.WideKeyArgs
namespace Go.Proofs.YtmfpmgelhhbfiaaDoor
open Go.ChangeShapes Go.WideShapes Go.ChangeAt Go.RowKit

section
variable {H : Type} {enc : TypeId × Value → H} {P : Program}

/-- What was read of the arguments is read of them again. -/
theorem args_stay (hl : laidOutB P = true) {W W' : World} {sp : Nat → Bool} : ∀ (ts : List TypeId) (vs : List Value) (ds : List (DataW H)) (ps : List MemPlace), (∀ t, t ∈ ts → P.readableRec t = true ∧ t < P.types.size) →
    DataW.TrodAll enc P W 0 (fun _ => true) true ts vs ds ps → (∀ x, x ∈ ps → W.sameAt W' x) → (∀ x, x ∈ ps → sp x.block = true) → DataW.TrodAll enc P W' 0 sp true ts vs ds ps := by
  intro ts
  induction ts with
  | nil =>
    intro vs ds ps _ h _ _
    obtain ⟨rfl, rfl, rfl⟩ := trodAll_nil h
    exact trodAll_mk0
  | cons t ts ih =>
    intro vs ds ps hr h hs hsp
    obtain ⟨v, vs', d, ds', p, q, rfl, rfl, rfl, h0, r0⟩ := trodAll_cons h
    exact trodAll_cons_mk (WideElems.Trod_stays hl (hr t (by simp)).1 (hr t (by simp)).2 h0 (fun x hx => hs x (by simp [hx])) (fun x hx => hsp x (by simp [hx])))
      (ih _ _ _ (fun u hu => hr u (by simp [hu])) r0 (fun x hx => hs x (by simp [hx])) (fun x hx => hsp x (by simp [hx])))

/-- A law that answered true and turned nothing that was there meets its row. -/
theorem law_post {f : Func} {s : ChangeSpec} {W W' : World} {args : Array Value} {ds : List (DataW H)} {ps : List MemPlace} (hl : laidOutB P = true) (hv : s.vars = []) (hfn : s.fn H (ds ++ []) = { results := [.lit (.bool true)], args := ds })
    (hr : ∀ t, t ∈ f.params.toList → P.readableRec t = true ∧ t < P.types.size) (hres : f.resultTypes = #[4]) (hbool : P.underlying 4 = some .bool)
    (hA : DataW.TrodAll enc P W 0 (fun _ => true) true f.params.toList args.toList ds ps) (hW : DataW.Whole enc P f.params.toList s.vars false W args.toList ds [] ps)
    (hb : Below W.heap.size W W') : s.post enc P f false true false false W args (.bool true) W' := by
  have hlt : ∀ x, x ∈ ps → x.block < W.heap.size := fun x hx => hW.lt x hx
  have hstay := args_stay (W' := W') (sp := fun b => decide (b < W.heap.size)) hl _ _ _ _ hr hA (fun x hx => hb.same (hlt x hx)) (fun x hx => by simpa using hlt x hx)
  refine ⟨ds, [], ps, [], ps, [], hW, ?_, by rw [hfn]; exact hstay, by rw [hfn, hv]; exact rfl, hb.frame _, fun h => by cases h⟩
  rw [hfn, hres]
  exact trodAll_mk1 (shut_bool hbool _)
end

end Go.Proofs.YtmfpmgelhhbfiaaDoor
