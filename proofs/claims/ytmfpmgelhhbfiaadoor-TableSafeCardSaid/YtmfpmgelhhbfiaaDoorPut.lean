/- Put, Pad, Parity of a table. -/
import Derived.Test.YtmfpmgelhhbfiaaDoorTrows
import Derived.Test.YtmfpmgelhhbfiaaDoorShelf
import Derived.Maps.AppendAt
import Derived.Deep.AppendLies
namespace Go.Proofs.YtmfpmgelhhbfiaaDoor
open Go.RowKit

theorem Tryd.info3 : (Tryd.prog.info? 3).map (fun i => (i.zero, i.size, i.bytes)) = some (some (.int .i64 0), 1, 8) := by kernel_rfl

set_option maxHeartbeats 400000 in
theorem table_data (w : World) (tb n c : Nat) (rb : Option Addr) (hn2 : n ≤ 1024) (hr : w.cell? ⟨tb, 0, none⟩ = some (.slice rb n c)) :
    Calls Tryd.prog 32 #[.pointer (some ⟨tb, 0, none⟩)] w fun e w' => e = .returned (.int .i64 ((n : Int) * 191)) ∧ w' = w := by
  go_enter Tryd.func32, Tryd.ntmps32
  go_wp2
  go_ret
  exact ⟨rfl, rfl⟩

/-- What an append hands back: the row, longer. -/
def Appended (w : World) (base : Nat) (t : TypeId) (sz : Nat) (v : Value) (n : Nat) (l : List Value) (e : Ending) (w' : World) : Prop :=
  ∃ v', e = .returned v' ∧ w'.ownsRow base t sz v' n l ∧ w.grownBy w' v.ownBlock ∧ (v'.ownBlock = v.ownBlock ∨ v'.ownBlock = some w.heap.size)

set_option maxRecDepth 100000 in
set_option maxHeartbeats 1000000 in
/-- slices.Insert of one value behind all others. -/
theorem insert_end (w : World) (base : Nat) (v : Value) (l : List Value) (n : Nat) (xb : Nat) (x : Value) (hx : x.oneCell' = true) (hown : w.ownsRow base 3 1 v n l) (hn : n < 1000000)
    (hb : base ≤ w.heap.size) (hc : w.cell? ⟨xb, 0, none⟩ = some x) :
    Calls Tryd.prog 37 #[v, .int .i64 n, .slice (some ⟨xb, 0, none⟩) 1 1] w (Appended w base 3 1 v (n + 1) (l ++ [x])) := by
  obtain ⟨i0, hi, hz0, hz1, hz2⟩ := info_parts Tryd.info3
  have hown' := hown
  obtain ⟨hl, hv⟩ := hown
  have hnew : ∀ j u, [x][j]? = some u → w.cell? ((⟨xb, 0, none⟩ : Addr).add j) = some u := by
    intro j u hj
    cases j with
    | zero => simp at hj; subst hj; exact hc
    | succ j => simp at hj
  have H1 := Lib.hid hnew
  have H2 := Lib.hid hown'
  have H3 := Lib.hid hx
  have HV := Lib.hid hv
  clear hnew hown' hx hl hv
  have hsl : ∃ a m, v = .slice a n m ∧ n ≤ m := by
    rcases HV.out with ⟨rfl, rfl⟩ | ⟨g, cap, cur, rfl, _, _, hnc, _⟩
    · exact ⟨_, _, rfl, Nat.le_refl _⟩
    · exact ⟨_, _, rfl, hnc⟩
  clear HV
  obtain ⟨a, m, rfl, hnm⟩ := hsl
  rcases Nat.lt_or_ge n m with hlt | hge
  · go_enter Tryd.func37, Tryd.ntmps37
    go_wp2_with (at_builtin; refine wpList_append_own_at _ rfl _ _ 24 rfl base 3 i0 (.int .i64 0) 1 8 Tryd.underlying24 hi hz0 hz1 hz2 rfl (by decide) _ _ _ rfl H2.out ⟨xb, 0, none⟩ 1 1 [x] rfl rfl H1.out ?_ ?_ ?_ hb ?_)
    case refine_1 => intro u hu; simp at hu; subst hu; exact H3.out
    case refine_2 => unfold maxLen; omega
    case refine_3 => omega
    case refine_4 =>
      intro v' w' hown1 hgrow _ hloc
      go_wp2
      go_ret
      exact ⟨v', rfl, hown1, hgrow, hloc⟩
  · obtain rfl : n = m := by omega
    go_enter Tryd.func37, Tryd.ntmps37
    go_wp2_with (at_builtin; refine wpList_append_own_at _ rfl _ _ 24 rfl base 3 i0 (.int .i64 0) 1 8 Tryd.underlying24 hi hz0 hz1 hz2 rfl (by decide) _ _ _ rfl H2.out ⟨xb, 0, none⟩ 1 1 [x] rfl rfl H1.out ?_ ?_ ?_ hb ?_)
    case refine_1 => intro u hu; simp at hu; subst hu; exact H3.out
    case refine_2 => unfold maxLen; omega
    case refine_3 => omega
    case refine_4 =>
      intro v' w' hown1 hgrow _ hloc
      go_wp2
      go_ret
      exact ⟨v', rfl, hown1, hgrow, hloc⟩

/-- A row of ints that a call owns. -/
def IntRow (w : World) (v : Value) (l : List Nat) : Prop := w.ownsRow 0 3 1 v l.length (l.map fun k : Nat => Value.int .i64 (k : Int))

theorem IntRow.frm {S : Nat → Prop} {w w' : World} {v : Value} {l : List Nat} (h : IntRow w v l) (f : Frm S w w') (hs : ∀ k, v.ownBlock = some k → ¬ S k) : IntRow w' v l := by
  refine ⟨h.1, ?_⟩
  rcases h.2 with hn | ⟨g, cap, cur, rfl, hb, hgg, rest⟩
  · exact .inl hn
  · exact .inr ⟨g, cap, cur, rfl, hb, f.heap hgg (hs g rfl), rest⟩
theorem IntRow.nil (w : World) : IntRow w (.slice none 0 0) [] := World.ownsRow_nil w 0 _ 1
theorem IntRow.lt {w : World} {v : Value} {l : List Nat} (h : IntRow w v l) : ∀ k, v.ownBlock = some k → k < w.heap.size := fun k hk => (World.ownsRow.lt h k hk).2

/-- Where a number stands, or would stand, in a row of ints. -/
theorem search_calls (w : World) (v : Value) (l : List Nat) (x : Nat) (xi : Int) (hx : xi = x) (h : IntRow w v l) (hs : l.Pairwise (· < ·)) (hl : l.length < 1000000) :
    Calls Tryd.prog 31 #[v, .int .i64 xi] w fun e w' => e = .returned (.tuple #[.int .i64 (l.countP (· < x) : Nat), .bool (l.contains x)]) ∧ ∃ q, w' = w.drewN q := by
  subst hx
  obtain ⟨h1, h2⟩ := h
  have e1 : ∀ n : List Nat, (n.map (fun k : Nat => (k : Int))).countP (· < (x : Int)) = n.countP (· < x) := by
    intro n; rw [List.countP_map]; congr 1; funext k; simp
  have e2 : ∀ n : List Nat, (n.map (fun k : Nat => (k : Int))).contains (x : Int) = n.contains x := by
    intro n; induction n with
    | nil => rfl
    | cons a n ih =>
      rw [List.map_cons, List.contains_cons, List.contains_cons, ih]
      congr 1
      rw [Bool.eq_iff_iff]; simp; omega
  rcases h2 with ⟨rfl, h0⟩ | ⟨g, cap, cur, rfl, _, hg, hc, hm, hsz, ht⟩
  · have : l = [] := List.eq_nil_of_length_eq_zero h0
    subst this
    refine (Tryd.slices_BinarySearch_int_empty none 0 (x : Int) w).mono ?_
    rintro e w' ⟨rfl, rfl⟩
    exact ⟨rfl, 0, rfl⟩
  · have hcell : ∀ j, j < (l.map (fun k : Nat => (k : Int))).length → w.cell? ⟨g, 0 + j, none⟩ = some (.int .i64 ((l.map (fun k : Nat => (k : Int))).getD j 0)) := by
      intro j hj
      have hj' : j < l.length := by simpa using hj
      rw [cell_of_row w g (0 + j) cur _ (0, 0) hg, Nat.zero_add]
      have : (cur.toList.take (l.length * 1))[j]? = some (.int .i64 ((l[j] : Nat) : Int)) := by
        rw [ht]; simp [hj']
      rw [List.getElem?_take] at this
      rw [if_pos (by omega)] at this
      rw [Array.getElem?_toList] at this
      rw [this]; simp [hj']
    refine (Tryd.slices_BinarySearch_int g 0 l.length cap (l.map (fun k : Nat => (k : Int))) (x : Int) w (by simp) (by omega) hcell ?_).mono ?_
    · rw [List.take_of_length_le (by simp), List.pairwise_map]
      exact hs.imp (fun h => by omega)
    · rintro e w' ⟨rfl, hq⟩
      rw [List.take_of_length_le (by simp), e1, e2]
      exact ⟨rfl, hq⟩

/-- A table: block tb; n rows; what is known; where what was put begins. S: its blocks. -/
structure TableAt (w : World) (tb n : Nat) (B : Nat → Nat → Nat) (K : Nat → Nat → Bool) (l : List Nat) (S : Nat → Prop) : Prop where
  ex : ∃ rb v, rb ≠ tb ∧ RowAt w tb 77 #[.slice (some ⟨rb, 0, none⟩) n n, v] ∧ RowsAt w rb n B K ∧ IntRow w v l ∧ v.ownBlock ≠ some tb ∧ v.ownBlock ≠ some rb ∧
    S tb ∧ S rb ∧ ∀ k, v.ownBlock = some k → S k
  foot : ∀ k, S k → k < w.heap.size
  pos : 0 < n
  most : n ≤ 1024
  sorted : l.Pairwise (· < ·)
  few : l.length < 1000000

theorem TableAt.frm {w w' : World} {tb n : Nat} {B : Nat → Nat → Nat} {K : Nat → Nat → Bool} {l : List Nat} {S T : Nat → Prop} (h : TableAt w tb n B K l S) (f : Frm T w w') (hs : ∀ k, S k → ¬ T k) : TableAt w' tb n B K l S := by
  obtain ⟨⟨rb, v, h1, h2, h3, h4, h5, h6, h7, h8, h9⟩, hf, a, b, c, d⟩ := h
  exact ⟨⟨rb, v, h1, h2.frm f (hs _ h7), h3.frm f (hs _ h8), h4.frm f (fun k hk => hs _ (h9 k hk)), h5, h6, h7, h8, h9⟩, fun k hk => f.lt (hf k hk), a, b, c, d⟩

/-- What a call that changes an object leaves: the object anew, with its own blocks and new ones. -/
def Fresh (w : World) (S S' : Nat → Prop) : Prop := ∀ k, S' k → S k ∨ w.heap.size ≤ k

/-- What Put leaves. -/
def PutPost (w : World) (tb rb n : Nat) (B : Nat → Nat → Nat) (K : Nat → Nat → Bool) (v : Value) (l : List Nat) (w' : World) : Prop :=
  ∃ v', RowAt w' tb 77 #[.slice (some ⟨rb, 0, none⟩) n n, v'] ∧ RowsAt w' rb n B K ∧ IntRow w' v' l ∧ Frm (fun k => k = rb ∨ k = tb ∨ v.ownBlock = some k) w w' ∧ (v'.ownBlock = v.ownBlock ∨ ∀ k, v'.ownBlock = some k → w.heap.size ≤ k)

set_option maxRecDepth 100000 in
set_option maxHeartbeats 1000000 in
theorem put_any (w : World) (tb rb n : Nat) (B : Nat → Nat → Nat) (K : Nat → Nat → Bool) (at_ : Nat) (s : ByteArray) (v : Value)
    (hn : 0 < n) (hn2 : n ≤ 1024) (hs0 : 0 < s.size) (hs : at_ + s.size ≤ 191 * n)
    (hrow : RowAt w tb 77 #[.slice (some ⟨rb, 0, none⟩) n n, v]) (hR : RowsAt w rb n B K) (hne : tb ≠ rb) (l : List Nat) (hv2 : IntRow w v l) (hvt : v.ownBlock ≠ some tb) (hvr : v.ownBlock ≠ some rb) (hsort : l.Pairwise (· < ·)) (hfew : l.length + 1 < 1000000) (hbig : ∀ k, k ∈ l → k < at_) (hse : s.toList.isEmpty = false) :
    Calls Tryd.prog 16 #[.pointer (some ⟨tb, 0, none⟩), .int .i64 at_, .string s] w fun e w' => e = .returned (.int .i64 0) ∧ PutPost w tb rb n (putB n at_ s.size (sb s) B) (putK n at_ s.size K) v (l ++ [at_]) w' := by
  have hr : w.cell? ⟨tb, 0, none⟩ = some (.slice (some ⟨rb, 0, none⟩) n n) := hrow.cell 0
  have hv : w.cell? ⟨tb, 1, none⟩ = some v := hrow.cell 1
  have hfz := hrow.frozen 1
  have HROW := Lib.hid hrow
  clear hrow
  have hne' : tb < w.heap.size := World.block_lt_of_cell? w _ hr
  have h1 : ¬ ((at_ : Int) < 0) := by omega
  have h2 : decide ((n : Int) * 191 < (at_ : Int)) = false := by simp; omega
  have h3 : decide ((n : Int) * 191 - (at_ : Int) < (s.size : Int)) = false := by simp; omega
  go_enter Tryd.func16, Tryd.ntmps16
  go_wp2_with (go_at_call 32; refine (table_data _ _ n n _ hn2 hr).mono ?_; rintro e w' ⟨rfl, rfl⟩)
  go_loopw [38] (fun i wr => ∃ k : Nat, k ≤ s.size ∧ i = .int .i64 k ∧ RowsAt wr rb n (putB n at_ k (sb s) B) (putK n at_ k K) ∧ Frm (· = rb) w' wr) (fun i _ => s.size - (intOf i).toNat)
  case atStart => exact ⟨0, Nat.zero_le _, rfl, by rw [putB_zero, putK_zero]; exact hR, Frm.refl _ _⟩
  case round =>
    obtain ⟨k, hk, rfl, hRk, hF⟩ := hrel
    by_cases hlt : k < s.size
    · have hr' : wr.cell? ⟨tb, 0, none⟩ = some (.slice (some ⟨rb, 0, none⟩) n n) := by rw [hF.cell hne' (fun e => hne e)]; exact hr
      go_wp2_with fail
      refine (table_place _ tb rb n (at_ + k) _ (by omega) hn hn2 (by omega) hr').mono ?_
      rintro e w1 ⟨rfl, q, rfl⟩
      go_wp2_with fail
      have hr1 : (at_ + k) % n < n := Nat.mod_lt _ hn
      have hr2 : (at_ + k) / n < 191 := by rw [Nat.div_lt_iff_lt_mul hn]; omega
      refine (table_set _ rb ((at_ + k) % n * 510) ((at_ + k) / n) (sb s k) _ _ (by simp) (by rw [sb_eq hlt]) (by omega) ?_ ?_ ?_ ?_).mono ?_
      · rw [World.cell?_drewN, hRk.byte hr1 (by omega)]; rfl
      · rw [World.cell?_drewN, hRk.known hr1 (by omega)]; rfl
      · exact hRk.frozen _
      · exact hRk.frozen _
      have hR1 := ((hRk.drewN q).put hr1 (show (at_ + k) / n < 255 by omega) (sb s k)).mark hr1 (show (at_ + k) / n < 255 by omega) true
      rintro e w2 ⟨rfl, hw2⟩
      have hR2 : RowsAt w2 rb n (putB n at_ (k + 1) (sb s) B) (putK n at_ (k + 1) K) := by
        rw [hw2]
        exact RowsAt.congr hR1 (fun r c hr hc => putB_succ hr (by omega)) (fun r c hr hc => putK_succ hr (by omega))
      have hF2 : Frm (· = rb) w' w2 := by
        rw [hw2]
        exact (((hF.drewN q).setCell (fun _ => rfl) _).setCell (fun _ => rfl) _).drew
      clear hR1 hw2 hr1 hr2 hRk hF hr'
      go_wp2_with fail
      go_roundw
      case rel => exact ⟨k + 1, by omega, by go_num, hR2, hF2⟩
      case measure => simp [intOf]; omega
    · obtain rfl : k = s.size := by omega
      have hlt' : tb < w'.heap.size := hne'
      have hvk : wr.cell? ⟨tb, 1, none⟩ = some v := by rw [hF.cell hne' (fun e => hne e)]; exact hv
      have hI : IntRow wr v l := hv2.frm hF (fun k hk e => hvr (by rw [hk, e]))
      have hcnt : l.countP (· < at_) = l.length := List.countP_eq_length.2 (fun k hk => by simpa using hbig k hk)
      have hcon : l.contains at_ = false := by
        rw [List.contains_eq_any_beq, List.any_eq_false]
        intro k hk; have := hbig k hk; simp; omega
      have HC := Lib.hid hcnt
      have HN := Lib.hid hcon
      clear hcnt hcon
      go_wp2_with fail
      refine (search_calls _ v l at_ _ rfl hI hsort (by omega)).mono ?_
      rw [HC.out, HN.out]
      rintro e w2 ⟨rfl, q, rfl⟩
      go_wp2_with fail
      have hRW : RowsAt ((wr.drewN q).alloc (Obj.cells #[Value.int IntKind.i64 at_] 3)) rb n (putB n at_ s.size (sb s) B) (putK n at_ s.size K) := hRk.frm (((Frm.refl (fun _ => False) wr).drewN q).alloc _) (fun h => h)
      have hW := (hF.drewN q).alloc (Obj.cells #[Value.int IntKind.i64 at_] 3)
      have hsz : wr.heap.size < ((wr.drewN q).alloc (Obj.cells #[Value.int IntKind.i64 at_] 3)).heap.size := by simp
      have hI0 : ((wr.drewN q).alloc (Obj.cells #[Value.int IntKind.i64 at_] 3)).ownsRow 0 3 1 v l.length (l.map fun k : Nat => Value.int .i64 (k : Int)) := World.ownsRow.alloc (w := wr.drewN q) hI _
      have hx0 : ((wr.drewN q).alloc (Obj.cells #[Value.int IntKind.i64 at_] 3)).cell? ⟨wr.heap.size, 0, none⟩ = some (.int .i64 at_) := (RowAt.new (wr.drewN q) _ _).cell 0
      refine (insert_end _ 0 v _ l.length wr.heap.size (.int .i64 at_) rfl hI0 (by omega) (Nat.zero_le _) hx0).mono ?_
      have hvl := hI.lt
      clear hI hI0 hx0 hvk
      generalize (wr.drewN q).alloc (Obj.cells #[Value.int IntKind.i64 at_] 3) = W2 at *
      rintro e w3 ⟨v', rfl, hown, hgrow, hloc⟩
      obtain ⟨g', cap', hv', _, _⟩ := hown.form (by omega)
      have hFb : Frm (fun k => k = rb ∨ v.ownBlock = some k) w' w3 :=
        (hW.mono (T := fun k => k = rb ∨ v.ownBlock = some k) (fun k _ h => .inl h)).step (Frm.of_grown hgrow) (fun k _ h => .inr h)
      have hFa : Frm (fun k => k = rb ∨ k = tb ∨ v.ownBlock = some k) w' w3 := hFb.mono (fun k _ h => h.elim .inl (fun h => .inr (.inr h)))
      have HROW3 := Lib.hid (HROW.out.frm hFb (fun h => h.elim hne hvt))
      have hc3 : w3.cell? ⟨tb, 1, none⟩ = some v := by rw [hFb.cell hne' (fun h => h.elim hne hvt)]; exact hv
      have hf3 : w3.frozen? ⟨tb, 1, none⟩ = false := by rw [hFb.frozen hne' (fun h => h.elim hne hvt)]; exact hfz
      have hR3 : RowsAt w3 rb n (putB n at_ s.size (sb s) B) (putK n at_ s.size K) := hRW.frm (Frm.of_grown hgrow) hvr
      have hI3 : IntRow w3 v' (l ++ [at_]) := by unfold IntRow; rw [List.length_append, List.map_append]; exact hown
      have hv3 : v'.ownBlock = v.ownBlock ∨ ∀ k, v'.ownBlock = some k → w'.heap.size ≤ k := by
        rcases hloc with h | h
        · exact .inl h
        · right; intro k hk; rw [h] at hk; cases hk; exact hW.size
      have hv4 : v'.ownBlock ≠ some tb := by
        rcases hloc with h | h
        · rw [h]; exact hvt
        · rw [h]; intro e; cases e; have := hW.size; omega
      have hlt3 : rb < w'.heap.size := hR.lt
      have hv5 : v'.ownBlock ≠ some rb := by
        rcases hloc with h | h
        · rw [h]; exact hvr
        · rw [h]; intro e; cases e; have := hW.size; omega
      have HI := Lib.hid hI3
      have HV := Lib.hid hv3
      have HR := Lib.hid hR3
      have HT := Lib.hid hv4
      have HT5 := Lib.hid hv5
      subst hv'
      clear hown hI3 hv3 hvl hFb hR3 hv4 hv5 hRW hloc hgrow hW hF hR
      go_wp2_with fail
      go_ret
      refine ⟨rfl, _, HROW3.out.setCell _ _, HR.out.frm ((Frm.refl (· = tb) w3).setCell (p := ⟨tb, 1, none⟩) (fun _ => rfl) _) (fun e => hne e.symm), ?_, hFa.setCell (p := ⟨tb, 1, none⟩) (fun _ => .inr (.inl rfl)) _, HV.out⟩
      exact HI.out.frm ((Frm.refl (· = tb) w3).setCell (p := ⟨tb, 1, none⟩) (fun _ => rfl) _) (fun k hk e => HT.out (by rw [hk, e]))

/-- A table after a call that changed it. -/
def TableTurned (w : World) (tb n : Nat) (B : Nat → Nat → Nat) (K : Nat → Nat → Bool) (l : List Nat) (S : Nat → Prop) (e : Ending) (w' : World) : Prop :=
  e = .returned (.int .i64 0) ∧ ∃ S', TableAt w' tb n B K l S' ∧ Frm S w w' ∧ Fresh w S S'

theorem put_table {w : World} {tb n : Nat} {B : Nat → Nat → Nat} {K : Nat → Nat → Bool} {l : List Nat} {S : Nat → Prop} (h : TableAt w tb n B K l S) (at_ : Nat) (s : ByteArray) (ai : Int) (hai : ai = at_)
    (hs0 : 0 < s.size) (hs : at_ + s.size ≤ 191 * n) (hfew : l.length + 1 < 1000000) (hbig : ∀ k, k ∈ l → k < at_) (hse : s.toList.isEmpty = false) :
    Calls Tryd.prog 16 #[.pointer (some ⟨tb, 0, none⟩), .int .i64 ai, .string s] w (TableTurned w tb n (putB n at_ s.size (sb s) B) (putK n at_ s.size K) (l ++ [at_]) S) := by
  subst hai
  obtain ⟨⟨rb, v, h1, h2, h3, h4, h5, h6, h7, h8, h9⟩, hf, a, b, c, d⟩ := h
  refine (put_any w tb rb n B K at_ s v a b hs0 hs h2 h3 (fun e => h1 e.symm) l h4 h5 h6 c hfew hbig hse).mono ?_
  rintro e w' ⟨rfl, v', k1, k2, k3, k4, k5⟩
  have hS : Frm S w w' := k4.mono (fun k _ hk => by
    rcases hk with rfl | rfl | hk
    · exact h8
    · exact h7
    · exact h9 k hk)
  refine ⟨rfl, fun k => S k ∨ v'.ownBlock = some k, ⟨⟨rb, v', h1, k1, k2, k3, ?_, ?_, .inl h7, .inl h8, fun k hk => .inr hk⟩, ?_, a, b, ?_, by simpa using hfew⟩, hS, ?_⟩
  · rcases k5 with k5 | k5
    · rw [k5]; exact h5
    · intro e; have := k5 _ e; have := hf _ h7; omega
  · rcases k5 with k5 | k5
    · rw [k5]; exact h6
    · intro e; have := k5 _ e; have := hf _ h8; omega
  · rintro k (hk | hk)
    · exact hS.lt (hf k hk)
    · exact k3.lt k hk
  · rw [List.pairwise_append]
    exact ⟨c, List.pairwise_singleton .., fun x hx y hy => by simp at hy; subst hy; exact hbig x hx⟩
  · rintro k (hk | hk)
    · exact .inl hk
    · rcases k5 with k5 | k5
      · exact .inl (h9 k (by rw [← k5]; exact hk))
      · exact .inr (k5 k hk)

end Go.Proofs.YtmfpmgelhhbfiaaDoor
