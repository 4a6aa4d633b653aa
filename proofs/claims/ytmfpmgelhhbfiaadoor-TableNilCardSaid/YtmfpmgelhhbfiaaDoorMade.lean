/- The reference's Make4, and the laws' Made. -/
import Derived.Test.YtmfpmgelhhbfiaaDoorRef7
namespace Go.Proofs.YtmfpmgelhhbfiaaDoor
open Go.RowKit

def headOf (n p : Nat) : ByteArray := textOf [69, 0, n / 256, n % 256, 0, 0, 0, 0, 64, p]
def make4 (f t : ByteArray) (p : Nat) (b : ByteArray) : ByteArray :=
  headOf (20 + b.size) p ++ textOf [refSum (headOf (20 + b.size) p ++ ⟨#[0, 0]⟩ ++ f ++ t) / 256, refSum (headOf (20 + b.size) p ++ ⟨#[0, 0]⟩ ++ f ++ t) % 256] ++ f ++ t ++ b

theorem textOf_size (l : List Nat) : (textOf l).size = l.length := by show ((l.map Nat.toUInt8).toArray).size = _; simp
theorem headOf_size (n p : Nat) : (headOf n p).size = 10 := textOf_size _

theorem make4_eq (f t : ByteArray) (p : Nat) (b : ByteArray) : make4 f t p b = headOf (20 + b.size) p ++ textOf [refSum (headOf (20 + b.size) p ++ ⟨#[0, 0]⟩ ++ f ++ t) / 256, refSum (headOf (20 + b.size) p ++ ⟨#[0, 0]⟩ ++ f ++ t) % 256] ++ f ++ t ++ b := rfl

/-- text of a slice that was just laid. -/
theorem text_new (w : World) (n : Nat) (l : List Nat) (k : Nat) (cur : Array Value) (hn : w.heap.size = n) (hk : k = l.length) (hcur : cur = (l.map fun x : Nat => Value.int .i64 (x : Int)).toArray) (hl : l.length ≤ 1000) (hb : ∀ x, x ∈ l → x < 256) :
    Calls Tryd.prog 51 #[.slice (some ⟨n, 0, none⟩) k k] (w.alloc (.cells cur 3)) fun e w' => e = .returned (.string (textOf l)) ∧ Below w.heap.size w w' := by
  subst hn hk hcur
  refine (text_calls _ w.heap.size l.length l hl hb ?_ (by simp)).mono ?_
  · intro j x hj
    rw [(RowAt.new w _ _).cell]
    simp [hj]
  · rintro e w' ⟨rfl, hB⟩
    exact ⟨rfl, ((Below.refl _ _).alloc (Nat.le_refl _) _).trans (hB.mono (by simp))⟩

set_option maxRecDepth 100000 in
set_option maxHeartbeats 2000000 in
theorem rmake4_calls (w : World) (f t b : ByteArray) (p : Nat) (hp : p < 256) (hf : f.size ≤ 100) (ht : t.size ≤ 100) (hb : b.size ≤ 4060) :
    Calls Tryd.prog 39 #[.string f, .string t, .int .i64 p, .string b] w fun e w' => e = .returned (.tuple #[.string (make4 f t p b), .int .i64 0]) ∧ Below w.heap.size w w' := by
  have d1 : decide ((p : Int) < 0) = false := by simp
  have d2 : decide ((255 : Int) < (p : Int)) = false := by simp; omega
  have d3 : decide ((4080 : Int) < 20 + (b.size : Int)) = false := by simp; omega
  go_enter Tryd.func39, Tryd.ntmps39
  go_wp2_with fail
  refine (text_new w _ [69, 0, (20 + b.size) / 256, (20 + b.size) % 256, 0, 0, 0, 0, 64, p] 10 _ rfl rfl (by simp) (by simp) (by simp; omega)).mono ?_
  rintro e w1 ⟨rfl, hB1⟩
  have HB1 := Lib.hid hB1
  clear hB1
  have hh : textOf [69, 0, (20 + b.size) / 256, (20 + b.size) % 256, 0, 0, 0, 0, 64, p] = headOf (20 + b.size) p := rfl
  have hhs := headOf_size (20 + b.size) p
  rw [hh]
  have hm := make4_eq f t p b
  generalize headOf (20 + b.size) p = H at *
  have HM := Lib.hid hm
  clear hh d1 d2 d3 hm
  have hHs : H.size ≤ 10 := by omega
  clear hhs
  have hcs : (⟨#[0, 0]⟩ : ByteArray).size = 2 := rfl
  go_wp2_with fail
  refine (rsum_calls _ _ (by simp only [ByteArray.size_append, hcs]; omega)).mono ?_
  rintro e w2 ⟨rfl, rfl⟩
  have hC := refSum_le (H ++ ⟨#[0, 0]⟩ ++ f ++ t)
  generalize hcc : refSum (H ++ ⟨#[0, 0]⟩ ++ f ++ t) = C at *
  have HC := Lib.hid hcc
  clear hcc hcs
  go_wp2_with fail
  refine (text_new _ _ [C / 256, C % 256] 2 _ rfl rfl (by simp) (by simp) (by simp; omega)).mono ?_
  rintro e w3 ⟨rfl, hB3⟩
  have HB3 := Lib.hid hB3
  have hT : (textOf [C / 256, C % 256]).size ≤ 2 := by rw [textOf_size]; simp
  generalize hTT : textOf [C / 256, C % 256] = T at *
  have HT := Lib.hid hTT
  clear hB3 hTT hC
  go_wp2_with fail
  go_ret2
  exact ⟨by rw [HM.out]; rfl, HB1.out.trans (HB3.out.mono HB1.out.size)⟩

end Go.Proofs.YtmfpmgelhhbfiaaDoor
