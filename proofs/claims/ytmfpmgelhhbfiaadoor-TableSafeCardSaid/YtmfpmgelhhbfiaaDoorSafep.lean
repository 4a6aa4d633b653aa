/- What is told of a table of which some datagrams came. -/
import Derived.Test.YtmfpmgelhhbfiaaDoorAwakp
namespace Go.Proofs.YtmfpmgelhhbfiaaDoor
open Go.RowKit

/-- A table's entry at a place. -/
def pl {α : Type} (F : Nat → Nat → α) (n p : Nat) : α := F (p % n) (p / n)
theorem pl_back (n p : Nat) : p / n * n + p % n = p := by rw [Nat.mul_comm]; exact Nat.div_add_mod p n
theorem putB_pl {n p : Nat} (hn : 0 < n) (hp : p < 191 * n) (a k : Nat) (s : Nat → Nat) (B : Nat → Nat → Nat) : pl (putB n a k s B) n p = if a ≤ p ∧ p < a + k then s (p - a) else pl B n p := by
  have h1 := pl_back n p
  have h2 : p / n < 191 := by rw [Nat.div_lt_iff_lt_mul hn]; exact hp
  unfold pl putB
  rw [h1]
  by_cases h : a ≤ p ∧ p < a + k
  · rw [if_pos h, if_pos ⟨h.1, h.2, h2⟩]
  · rw [if_neg h, if_neg (fun g => h ⟨g.1, g.2.1⟩)]
theorem putK_pl {n p : Nat} (hn : 0 < n) (hp : p < 191 * n) (a k : Nat) (K : Nat → Nat → Bool) : pl (putK n a k K) n p = if a ≤ p ∧ p < a + k then true else pl K n p := by
  have h1 := pl_back n p
  have h2 : p / n < 191 := by rw [Nat.div_lt_iff_lt_mul hn]; exact hp
  unfold pl putK
  rw [h1]
  by_cases h : a ≤ p ∧ p < a + k
  · rw [if_pos h, if_pos ⟨h.1, h.2, h2⟩]
  · rw [if_neg h, if_neg (fun g => h ⟨g.1, g.2.1⟩)]

/-- A table's bytes, and marks, of which so many datagrams came. -/
def tabBf (n : Nat) (B : Nat → Nat → Nat) (P : List (Nat × ByteArray)) : Nat → Nat → Nat := P.foldl (fun B e => putB n e.1 e.2.size (sb e.2) B) B
def tabKf (n : Nat) (K : Nat → Nat → Bool) (P : List (Nat × ByteArray)) : Nat → Nat → Bool := P.foldl (fun K e => putK n e.1 e.2.size K) K
def tabB (n : Nat) (P : List (Nat × ByteArray)) : Nat → Nat → Nat := tabBf n (fun _ _ => 0) P
def tabK (n : Nat) (P : List (Nat × ByteArray)) : Nat → Nat → Bool := tabKf n (fun _ _ => false) P
theorem tabB_snoc (n : Nat) (P : List (Nat × ByteArray)) (e : Nat × ByteArray) : tabB n (P ++ [e]) = putB n e.1 e.2.size (sb e.2) (tabB n P) := by simp [tabB, tabBf, List.foldl_append]
theorem tabK_snoc (n : Nat) (P : List (Nat × ByteArray)) (e : Nat × ByteArray) : tabK n (P ++ [e]) = putK n e.1 e.2.size (tabK n P) := by simp [tabK, tabKf, List.foldl_append]
theorem tabB_lt (n : Nat) (P : List (Nat × ByteArray)) (r c : Nat) : tabB n P r c < 256 := by
  have h : ∀ (P : List (Nat × ByteArray)) (B : Nat → Nat → Nat), (∀ r c, B r c < 256) → tabBf n B P r c < 256 := by
    intro P
    induction P with
    | nil => intro B h; exact h r c
    | cons e P ih =>
      intro B h
      refine ih (putB n e.1 e.2.size (sb e.2) B) (fun r c => ?_)
      unfold putB
      split
      · exact sb_lt _ _
      · exact h r c
  exact h P _ (fun _ _ => by decide)

/-- Does a datagram hold a place? -/
def Has (e : Nat × ByteArray) (p : Nat) : Prop := e.1 ≤ p ∧ p < e.1 + e.2.size

/-- Datagrams in their order, none over another one, from a place on, up to another one. -/
def Chain (hi : Nat) : Nat → List (Nat × ByteArray) → Prop
  | p, [] => p ≤ hi
  | p, e :: Q => p ≤ e.1 ∧ checkOf e.2 = 0 ∧ 20 ≤ e.2.size ∧ e.2.size ≤ 4080 ∧ Chain hi (e.1 + e.2.size) Q
theorem Chain.le {hi : Nat} : ∀ {Q : List (Nat × ByteArray)} {p : Nat}, Chain hi p Q → p ≤ hi
  | [], _, h => h
  | e :: Q, p, ⟨h1, _, _, _, h⟩ => by have := Chain.le h; omega
theorem Chain.mem {hi : Nat} : ∀ {Q : List (Nat × ByteArray)} {p : Nat} {e : Nat × ByteArray}, Chain hi p Q → e ∈ Q → p ≤ e.1 ∧ e.1 + e.2.size ≤ hi ∧ checkOf e.2 = 0 ∧ 20 ≤ e.2.size ∧ e.2.size ≤ 4080
  | a :: Q, p, e, ⟨h1, h2, h3, h4, h⟩, he => by
    rcases List.mem_cons.1 he with rfl | he
    · exact ⟨h1, Chain.le h, h2, h3, h4⟩
    · have := Chain.mem h he
      exact ⟨by omega, this.2⟩
theorem Chain.mono {hi : Nat} {Q : List (Nat × ByteArray)} {p q : Nat} (h : Chain hi p Q) (hq : q ≤ p) : Chain hi q Q := by
  cases Q with
  | nil => exact Nat.le_trans hq h
  | cons e Q => obtain ⟨h1, h2⟩ := h; exact ⟨Nat.le_trans hq h1, h2⟩

theorem tabK_none {n p : Nat} (hn : 0 < n) (hp : p < 191 * n) : ∀ (P : List (Nat × ByteArray)) (K : Nat → Nat → Bool), (∀ e, e ∈ P → ¬ Has e p) → pl (tabKf n K P) n p = pl K n p := by
  intro P
  induction P with
  | nil => intro K _; rfl
  | cons a P ih =>
    intro K h
    show pl (tabKf n (putK n a.1 a.2.size K) P) n p = _
    rw [ih _ (fun e he => h e (by simp [he])), putK_pl hn hp, if_neg (show ¬ (a.1 ≤ p ∧ p < a.1 + a.2.size) from h a (by simp))]
theorem tabK_some {n p : Nat} (hn : 0 < n) (hp : p < 191 * n) : ∀ (P : List (Nat × ByteArray)) (K : Nat → Nat → Bool), (pl K n p = true ∨ ∃ e, e ∈ P ∧ Has e p) → pl (tabKf n K P) n p = true := by
  intro P
  induction P with
  | nil => rintro K (h | ⟨e, he, _⟩); exact h; cases he
  | cons a P ih =>
    intro K h
    show pl (tabKf n (putK n a.1 a.2.size K) P) n p = _
    refine ih _ ?_
    rw [putK_pl hn hp]
    by_cases g : a.1 ≤ p ∧ p < a.1 + a.2.size
    · rw [if_pos g]; exact .inl rfl
    · rw [if_neg g]
      rcases h with h | ⟨e, he, h⟩
      · exact .inl h
      · rcases List.mem_cons.1 he with rfl | he
        · exact absurd h g
        · exact .inr ⟨e, he, h⟩
theorem tabB_none {n p : Nat} (hn : 0 < n) (hp : p < 191 * n) : ∀ (P : List (Nat × ByteArray)) (B : Nat → Nat → Nat), (∀ e, e ∈ P → ¬ Has e p) → pl (tabBf n B P) n p = pl B n p := by
  intro P
  induction P with
  | nil => intro B _; rfl
  | cons a P ih =>
    intro B h
    show pl (tabBf n (putB n a.1 a.2.size (sb a.2) B) P) n p = _
    rw [ih _ (fun e he => h e (by simp [he])), putB_pl hn hp, if_neg (show ¬ (a.1 ≤ p ∧ p < a.1 + a.2.size) from h a (by simp))]
theorem tabB_some {n p hi : Nat} (hn : 0 < n) (hp : p < 191 * n) : ∀ (P : List (Nat × ByteArray)) (q : Nat) (B : Nat → Nat → Nat) (e : Nat × ByteArray), Chain hi q P → e ∈ P → Has e p → pl (tabBf n B P) n p = sb e.2 (p - e.1) := by
  intro P
  induction P with
  | nil => intro q B e _ he; cases he
  | cons a P ih =>
    intro q B e hC he hH
    obtain ⟨h1, h2, h3, h4, h5⟩ := hC
    show pl (tabBf n (putB n a.1 a.2.size (sb a.2) B) P) n p = _
    rcases List.mem_cons.1 he with rfl | he
    · rw [tabB_none hn hp _ _ (fun x hx h => by have := h5.mem hx; unfold Has at *; omega), putB_pl hn hp, if_pos (show e.1 ≤ p ∧ p < e.1 + e.2.size from hH)]
    · exact ih _ _ e h5 he hH

theorem first_zero (r : List UInt8) : firstOf ⟨(0 :: r).toArray⟩ = none := by
  have hs : (⟨((0 : UInt8) :: r).toArray⟩ : ByteArray).size = r.length + 1 := by rw [mk_size]; rfl
  have h0 : sb ⟨((0 : UInt8) :: r).toArray⟩ 0 = 0 := rfl
  generalize (⟨((0 : UInt8) :: r).toArray⟩ : ByteArray) = s at *
  unfold firstOf peekOf
  rw [h0, if_neg (by omega), if_neg (by decide), if_neg (by decide)]
  rfl

/-- Of a table that holds just these datagrams, and bytes 0 from the frame's end on, these are told. -/
theorem out_suffix {n hi : Nat} {B : Nat → Nat → Nat} {K : Nat → Nat → Bool} {P : List (Nat × ByteArray)} (hhi : hi ≤ 191 * n)
    (h1 : ∀ e, e ∈ P → ∀ p, Has e p → pl K n p = true ∧ pl B n p = sb e.2 (p - e.1))
    (h2 : ∀ p, p < 191 * n → (∀ e, e ∈ P → ¬ Has e p) → pl K n p = true → hi ≤ p ∧ pl B n p = 0) :
    ∀ (Q P1 : List (Nat × ByteArray)) (p : Nat), P = P1 ++ Q → Chain hi p Q → (∀ e, e ∈ P1 → e.1 + e.2.size ≤ p) → OutFrom n B K (P.map (·.1)) p Q := by
  have hcnt : ∀ (l : List Nat) (p : Nat), (∀ x, x ∈ l → x ≤ p) → l.countP (· < p + 1) = l.length := fun l p h => List.countP_eq_length.2 (fun x hx => by have := h x hx; simp; omega)
  intro Q
  induction Q with
  | nil =>
    intro P1 p hP hC hE
    rw [List.append_nil] at hP
    subst hP
    refine .stop p ?_ ?_
    · by_cases hp : p < 191 * n ∧ K (p % n) (p / n) = true
      · obtain ⟨g1, g2⟩ := h2 p hp.1 (fun e he h => by have := hE e he; unfold Has at h; omega) hp.2
        rw [show (4080 : Nat) = 4079 + 1 from rfl, knownL, if_pos hp, show B (p % n) (p / n) = 0 from g2]
        exact first_zero _
      · rw [knownL_none (fun h => by
          cases hk : K (p % n) (p / n) with
          | false => rfl
          | true => exact absurd ⟨h, hk⟩ hp)]
        exact first_empty
    · unfold nextStart
      rw [hcnt _ _ (fun x hx => by
        obtain ⟨e, he, rfl⟩ := List.mem_map.1 hx
        have := hE e he; omega)]
      simp
  | cons e Q ih =>
    intro P1 p hP hC hE
    obtain ⟨c1, c2, c3, c4, c5⟩ := hC
    have hmem : e ∈ P := by rw [hP]; simp
    have hle := c5.le
    have key : OutFrom n B K (P.map (·.1)) e.1 (e :: Q) := by
      have hlen : e.2.data.toList.length = e.2.size := (ba_size _).symm
      refine .told e.1 e.2 Q ?_ (ih (P1 ++ [e]) (e.1 + e.2.size) (by rw [hP]; simp) c5 (fun x hx => ?_))
      · rw [knownL_told n B K e.2.data.toList 4080 e.1 (by omega) (fun i hi => ?_)]
        · exact first_append _ c2
        · obtain ⟨g1, g2⟩ := h1 e hmem (e.1 + i) ⟨by omega, by omega⟩
          refine ⟨by omega, g1, ?_⟩
          rw [show B ((e.1 + i) % n) ((e.1 + i) / n) = pl B n (e.1 + i) from rfl, g2, Nat.add_sub_cancel_left]
          exact sb_byte hi
      · rcases List.mem_append.1 hx with hx | hx
        · have := hE x hx; omega
        · simp at hx; subst hx; exact Nat.le_refl _
    by_cases hpe : p = e.1
    · rw [hpe]; exact key
    · have hno : p < 191 * n → K (p % n) (p / n) = false := by
        intro hp
        cases hk : K (p % n) (p / n) with
        | false => rfl
        | true =>
          have := (h2 p hp (fun x hx h => by
            rw [hP] at hx
            unfold Has at h
            rcases List.mem_append.1 hx with hx | hx
            · have := hE x hx; omega
            · rcases List.mem_cons.1 hx with rfl | hx
              · omega
              · have := c5.mem hx; omega) hk).1
          omega
      refine .next p e.1 (e :: Q) (by rw [knownL_none hno]; exact first_empty) ?_ key
      unfold nextStart
      rw [hP, List.map_append, List.map_cons, List.countP_append, hcnt _ _ (fun x hx => by
        obtain ⟨y, hy, rfl⟩ := List.mem_map.1 hx
        have := hE y hy; omega), List.countP_cons_of_neg (by simp; omega), List.countP_eq_zero.2 (fun x hx => by
        obtain ⟨y, hy, rfl⟩ := List.mem_map.1 hx
        have := c5.mem hy
        simp; omega)]
      rw [List.getElem?_append_right (by omega)]
      simp

/-- What is told of a table of which some datagrams came, the padding being known or not. -/
theorem out_chain {n hi cols : Nat} {P : List (Nat × ByteArray)} (hn : 0 < n) (hC : Chain hi 0 P) (hhi : hi ≤ 191 * n) (pad : Bool) (hpad : hi ≤ (191 - cols) * n) {r : List (Nat × ByteArray)}
    (h : OutFrom n (tabB n P) (if pad = true then padK cols (tabK n P) else tabK n P) (P.map (·.1)) 0 r) : r = P := by
  refine h.unique _ (out_suffix hhi ?_ ?_ P [] 0 rfl hC (fun e he => by cases he))
  · intro e he p hp
    have hm := hC.mem he
    have hlt : p < 191 * n := by unfold Has at hp; omega
    refine ⟨?_, tabB_some hn hlt P 0 _ e hC he hp⟩
    have hk : pl (tabK n P) n p = true := tabK_some hn hlt P _ (.inr ⟨e, he, hp⟩)
    cases pad with
    | false => exact hk
    | true =>
      show padK cols (tabK n P) (p % n) (p / n) = true
      unfold padK
      split
      · rfl
      · exact hk
  · intro p hp hno hk
    have hk0 : pl (tabK n P) n p = false := tabK_none hn hp P _ hno
    have hb0 : pl (tabB n P) n p = 0 := tabB_none hn hp P _ hno
    refine ⟨?_, hb0⟩
    cases pad with
    | false => rw [if_neg (by simp)] at hk; rw [hk0] at hk; cases hk
    | true =>
      rw [if_pos rfl] at hk
      have hk' : padK cols (tabK n P) (p % n) (p / n) = true := hk
      unfold padK at hk'
      split at hk'
      · rename_i g
        have h1 := pl_back n p
        have : (191 - cols) * n ≤ p / n * n := Nat.mul_le_mul_right n g.1
        omega
      · rw [show tabK n P (p % n) (p / n) = false from hk0] at hk'; cases hk'

/-- Of rows those whose number is not in a list. -/
def keep (G : List Int) : Nat → List (Nat × ByteArray) → List (Nat × ByteArray)
  | _, [] => []
  | i, e :: L => if (i : Int) ∈ G then keep G (i + 1) L else e :: keep G (i + 1) L
theorem keep_append (G : List Int) : ∀ (L M : List (Nat × ByteArray)) (i : Nat), keep G i (L ++ M) = keep G i L ++ keep G (i + L.length) M := by
  intro L
  induction L with
  | nil => intro M i; rfl
  | cons e L ih =>
    intro M i
    simp only [List.cons_append, keep, ih, List.length_cons]
    rw [show i + 1 + L.length = i + (L.length + 1) by omega]
    split <;> rfl
theorem keep_take {G : List Int} {L : List (Nat × ByteArray)} {k : Nat} (h : k < L.length) : keep G 0 (L.take (k + 1)) = keep G 0 (L.take k) ++ if (k : Int) ∈ G then [] else [L[k]] := by
  rw [List.take_succ_eq_append_getElem h, keep_append]
  congr 1
  rw [List.length_take, Nat.min_eq_left (by omega), Nat.zero_add]
  simp only [keep]
theorem keep_len (G : List Int) : ∀ (L : List (Nat × ByteArray)) (i : Nat), (keep G i L).length ≤ L.length := by
  intro L
  induction L with
  | nil => intro i; exact Nat.le_refl _
  | cons e L ih =>
    intro i
    have := ih (i + 1)
    simp only [keep]
    split <;> simp <;> omega
theorem keep_get {G : List Int} {L : List (Nat × ByteArray)} {k : Nat} (h : k < L.length) (hG : ¬ (k : Int) ∈ G) : (keep G 0 L)[(keep G 0 (L.take k)).length]? = some L[k] := by
  have h1 : keep G 0 L = keep G 0 (L.take k) ++ ([L[k]] ++ keep G (0 + (L.take (k + 1)).length) (L.drop (k + 1))) := by
    conv => lhs; rw [← List.take_append_drop (k + 1) L]
    rw [keep_append, keep_take h, if_neg hG, List.append_assoc]
  rw [h1, List.getElem?_append_right (Nat.le_refl _)]
  simp

/-- A frame's datagrams, one behind the other. -/
def plc : Nat → List ByteArray → List (Nat × ByteArray)
  | _, [] => []
  | a, d :: ds => (a, d) :: plc (a + d.size) ds
def tot (ds : List ByteArray) : Nat := (ds.map (·.size)).sum
theorem tot_snoc (ds : List ByteArray) (d : ByteArray) : tot (ds ++ [d]) = tot ds + d.size := by simp [tot]
theorem tot_cons (ds : List ByteArray) (d : ByteArray) : tot (d :: ds) = d.size + tot ds := by simp [tot]
theorem plc_snoc (d : ByteArray) : ∀ (ds : List ByteArray) (a : Nat), plc a (ds ++ [d]) = plc a ds ++ [(a + tot ds, d)] := by
  intro ds
  induction ds with
  | nil => intro a; simp [plc, tot]
  | cons x ds ih => intro a; simp only [List.cons_append, plc, ih, tot_cons, Nat.add_assoc]
theorem plc_len : ∀ (ds : List ByteArray) (a : Nat), (plc a ds).length = ds.length := by
  intro ds
  induction ds with
  | nil => intro a; rfl
  | cons x ds ih => intro a; simp [plc, ih]
theorem keep_chain (G : List Int) : ∀ (ds : List ByteArray) (a i hi : Nat), (∀ d, d ∈ ds → checkOf d = 0 ∧ 20 ≤ d.size ∧ d.size ≤ 4080) → a + tot ds ≤ hi → Chain hi a (keep G i (plc a ds)) := by
  intro ds
  induction ds with
  | nil => intro a i hi _ h; simp [tot] at h; exact h
  | cons d ds ih =>
    intro a i hi h ht
    rw [tot_cons] at ht
    obtain ⟨h1, h2, h3⟩ := h d (by simp)
    have := ih (a + d.size) (i + 1) hi (fun x hx => h x (by simp [hx])) (by omega)
    simp only [plc, keep]
    split
    · exact this.mono (by omega)
    · exact ⟨Nat.le_refl _, h1, h2, h3, this⟩
/-- What a frame of so much room holds of datagrams that are added to it. -/
def adds (cap : Nat) (f : Nat → ByteArray) : Nat → List ByteArray
  | 0 => []
  | k + 1 => if tot (adds cap f k) + (f k).size ≤ cap then adds cap f k ++ [f k] else adds cap f k
theorem adds_tot (cap : Nat) (f : Nat → ByteArray) (k : Nat) : tot (adds cap f k) ≤ cap := by
  induction k with
  | zero => exact Nat.zero_le _
  | succ k ih =>
    simp only [adds]
    split
    · rw [tot_snoc]; assumption
    · exact ih
theorem adds_mem (cap : Nat) (f : Nat → ByteArray) (k : Nat) (d : ByteArray) (h : d ∈ adds cap f k) : ∃ i, i < k ∧ d = f i := by
  induction k with
  | zero => cases h
  | succ k ih =>
    simp only [adds] at h
    split at h
    · rcases List.mem_append.1 h with h | h
      · obtain ⟨i, hi, e⟩ := ih h; exact ⟨i, by omega, e⟩
      · simp at h; exact ⟨k, by omega, h⟩
    · obtain ⟨i, hi, e⟩ := ih h; exact ⟨i, by omega, e⟩
theorem adds_len (cap : Nat) (f : Nat → ByteArray) (k : Nat) : (adds cap f k).length ≤ k := by
  induction k with
  | zero => exact Nat.le_refl _
  | succ k ih =>
    simp only [adds]
    split
    · simp; omega
    · omega
end Go.Proofs.YtmfpmgelhhbfiaaDoor
