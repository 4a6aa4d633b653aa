/- A scope with labels: what holds at each label, and a measure that each jump lowers. -/
import Derived.Test.YtmfpmgelhhbfiaaDoorMem
import Derived.ScopeJumps
namespace Go.Proofs.YtmfpmgelhhbfiaaDoor
open Go.RowKit

/-- As Q; by a goto to a label: what J says there. -/
def jumps (J : Nat → Act → World → Prop) (Q : Exit → Act → World → Prop) : Exit → Act → World → Prop
  | .goto l, a, w => J l a w
  | e, a, w => Q e a w

theorem jumps_mono {J J' : Nat → Act → World → Prop} {Q : Exit → Act → World → Prop} (h : ∀ l a w, J l a w → J' l a w) : ∀ e a w, jumps J Q e a w → jumps J' Q e a w := by
  intro e a w
  cases e <;> first | exact h _ _ _ | exact id

theorem jumps_ret {J : Nat → Act → World → Prop} {Q : Exit → Act → World → Prop} {a : Act} {w : World} (h : Q .ret a w) : jumps J Q .ret a w := h
theorem jumps_goto {J : Nat → Act → World → Prop} {Q : Exit → Act → World → Prop} {l : Nat} {a : Act} {w : World} (h : J l a w) : jumps J Q (.goto l) a w := h

theorem wp_scope_labels {P : Program} {a : Act} {w : World} {Q : Exit → Act → World → Prop} {c : Code} (J : Nat → Act → World → Prop) (μ : Nat → Act → World → Nat)
    (hJ : ∀ l a w, J l a w → (findLabel c l).isSome = true)
    (pass : ∀ l rest a w, findLabel c l = some rest → J l a w → rest.wp P (jumps (fun l' a' w' => J l' a' w' ∧ μ l' a' w' < μ l a w) Q) a w)
    (first : (∀ l rest a w, findLabel c l = some rest → J l a w → rest.wp P (jumps J Q) a w) → c.wp P (jumps J Q) a w) : (Code.scope c).wp P Q a w := by
  intro b k cs
  have key : ∀ n l rest a w, findLabel c l = some rest → μ l a w = n → J l a w → ∃ e a' w', Q e a' w' ∧ Arrives P (lone (b.at a (.code rest :: .inScope c :: k)) cs w) b k cs e a' w' := by
    intro n
    induction n using Nat.strongRecOn with
    | _ n ih =>
      intro l rest a w hf hn hJl
      obtain ⟨e, a₁, w₁, hq, harr⟩ := pass l rest a w hf hJl b (.inScope c :: k) cs
      cases e with
      | normal => exact ⟨.normal, a₁, w₁, hq, Steps.trans harr (.one step_inScope)⟩
      | exit id => exact ⟨.exit id, a₁, w₁, hq, fun k' hk => harr k' (by simp [exitTo, hk])⟩
      | goto l' =>
        obtain ⟨hJ', hlt⟩ := hq
        obtain ⟨rest', hf'⟩ := Option.isSome_iff_exists.1 (hJ _ _ _ hJ')
        obtain ⟨e₂, a₂, w₂, hq₂, harr₂⟩ := ih _ (by omega) l' rest' a₁ w₁ hf' rfl hJ'
        exact ⟨e₂, a₂, w₂, hq₂, .of_steps (harr _ (by simp [gotoIn, hf'])) harr₂⟩
      | ret => exact ⟨_, a₁, w₁, hq, harr⟩
      | panic ch => exact ⟨_, a₁, w₁, hq, harr⟩
      | outgrown => exact ⟨_, a₁, w₁, hq, harr⟩
  have hin : ∀ l rest a w, findLabel c l = some rest → J l a w → rest.wp P (jumps J Q) a w := fun l rest a w hf hj =>
    Code.wp_mono (jumps_mono (fun _ _ _ h => h.1)) (pass l rest a w hf hj)
  obtain ⟨e, a₁, w₁, hq, harr⟩ := first hin b (.inScope c :: k) cs
  cases e with
  | normal => exact ⟨.normal, a₁, w₁, hq, .head step_scope (Steps.trans harr (.one step_inScope))⟩
  | exit id => exact ⟨.exit id, a₁, w₁, hq, fun k' hk => .head step_scope (harr k' (by simp [exitTo, hk]))⟩
  | goto l' =>
    obtain ⟨rest', hf'⟩ := Option.isSome_iff_exists.1 (hJ _ _ _ hq)
    obtain ⟨e₂, a₂, w₂, hq₂, harr₂⟩ := key _ l' rest' a₁ w₁ hf' rfl hq
    exact ⟨e₂, a₂, w₂, hq₂, .of_steps (.head step_scope (harr _ (by simp [gotoIn, hf']))) harr₂⟩
  | ret => exact ⟨_, a₁, w₁, hq, .of_steps (.one step_scope) harr⟩
  | panic ch => exact ⟨_, a₁, w₁, hq, .of_steps (.one step_scope) harr⟩
  | outgrown => exact ⟨_, a₁, w₁, hq, .of_steps (.one step_scope) harr⟩

/-- As Q; by a goto to label l: J; by another: no way out. -/
def jump1 (l : Nat) (J : Act → World → Prop) (Q : Exit → Act → World → Prop) : Exit → Act → World → Prop := jumps (fun l' a w => l' = l ∧ J a w) Q

theorem wp_scope_one {P : Program} {a : Act} {w : World} {Q : Exit → Act → World → Prop} {c y : Code} (l : Nat) (hf : findLabel c l = some (.seq .skip y)) (J : Act → World → Prop) (μ : Act → World → Nat)
    (pass : ∀ a w, J a w → y.wp P (jump1 l (fun a' w' => J a' w' ∧ μ a' w' < μ a w) Q) a w)
    (first : (∀ a w, J a w → y.wp P (jump1 l J Q) a w) → c.wp P (jump1 l J Q) a w) : (Code.scope c).wp P Q a w := by
  refine wp_scope_labels (fun l' a w => l' = l ∧ J a w) (fun _ => μ) ?_ ?_ ?_
  · rintro l' a w ⟨rfl, _⟩
    rw [hf]; rfl
  · rintro l' rest a w hf' ⟨rfl, hJ⟩
    rw [hf] at hf'; cases hf'
    refine wp_seq (wp_skip ?_)
    refine Code.wp_mono (jumps_mono ?_) (pass a w hJ)
    rintro l2 a2 w2 ⟨rfl, h1, h2⟩
    exact ⟨⟨rfl, h1⟩, h2⟩
  · intro _
    refine first fun a w hJ => ?_
    refine Code.wp_mono (jumps_mono ?_) (pass a w hJ)
    rintro l2 a2 w2 ⟨rfl, h1, _⟩
    exact ⟨rfl, h1⟩

def jump2 (l m : Nat) (J K : Act → World → Prop) (Q : Exit → Act → World → Prop) : Exit → Act → World → Prop := jumps (fun l' a w => (l' = l ∧ J a w) ∨ (l' = m ∧ K a w)) Q

/-- Two labels: the run goes from the first one on to the second one, and not back. -/
theorem wp_scope_two {P : Program} {a : Act} {w : World} {Q : Exit → Act → World → Prop} {c y z : Code} (l m : Nat) (hf : findLabel c l = some (.seq .skip y)) (hg : findLabel c m = some (.seq .skip z))
    (J K : Act → World → Prop) (μ ν : Act → World → Nat)
    (passK : ∀ a w, K a w → z.wp P (jump1 m (fun a' w' => K a' w' ∧ ν a' w' < ν a w) Q) a w)
    (passJ : ∀ a w, J a w → (∀ a w, K a w → z.wp P (jump1 m K Q) a w) → y.wp P (jump2 l m (fun a' w' => J a' w' ∧ μ a' w' < μ a w) K Q) a w)
    (first : (∀ a w, J a w → y.wp P (jump2 l m J K Q) a w) → c.wp P (jump2 l m J K Q) a w) : (Code.scope c).wp P Q a w := by
  intro b k cs
  have hgl : gotoIn l (.inScope c :: k) = some (.code (.seq .skip y) :: .inScope c :: k) := by simp [gotoIn, hf]
  have hgm : gotoIn m (.inScope c :: k) = some (.code (.seq .skip z) :: .inScope c :: k) := by simp [gotoIn, hg]
  have keyK : ∀ n a w, ν a w = n → K a w → ∃ e a' w', Q e a' w' ∧ Arrives P (lone (b.at a (.code (.seq .skip z) :: .inScope c :: k)) cs w) b k cs e a' w' := by
    intro n
    induction n using Nat.strongRecOn with
    | _ n ih =>
      intro a w hn hK
      obtain ⟨e, a₁, w₁, hq, harr⟩ := wp_seq (wp_skip (passK a w hK)) b (.inScope c :: k) cs
      cases e with
      | normal => exact ⟨.normal, a₁, w₁, hq, Steps.trans harr (.one step_inScope)⟩
      | exit id => exact ⟨.exit id, a₁, w₁, hq, fun k' hk => harr k' (by simp [exitTo, hk])⟩
      | goto l' =>
        obtain ⟨rfl, hJ', hlt⟩ := hq
        obtain ⟨e₂, a₂, w₂, hq₂, harr₂⟩ := ih _ (by omega) a₁ w₁ rfl hJ'
        exact ⟨e₂, a₂, w₂, hq₂, .of_steps (harr _ hgm) harr₂⟩
      | ret => exact ⟨_, a₁, w₁, hq, harr⟩
      | panic ch => exact ⟨_, a₁, w₁, hq, harr⟩
      | outgrown => exact ⟨_, a₁, w₁, hq, harr⟩
  have hinK : ∀ a w, K a w → z.wp P (jump1 m K Q) a w := fun a w hK => Code.wp_mono (jumps_mono (fun _ _ _ h => ⟨h.1, h.2.1⟩)) (passK a w hK)
  have keyJ : ∀ n a w, μ a w = n → J a w → ∃ e a' w', Q e a' w' ∧ Arrives P (lone (b.at a (.code (.seq .skip y) :: .inScope c :: k)) cs w) b k cs e a' w' := by
    intro n
    induction n using Nat.strongRecOn with
    | _ n ih =>
      intro a w hn hJ
      obtain ⟨e, a₁, w₁, hq, harr⟩ := wp_seq (wp_skip (passJ a w hJ hinK)) b (.inScope c :: k) cs
      cases e with
      | normal => exact ⟨.normal, a₁, w₁, hq, Steps.trans harr (.one step_inScope)⟩
      | exit id => exact ⟨.exit id, a₁, w₁, hq, fun k' hk => harr k' (by simp [exitTo, hk])⟩
      | goto l' =>
        rcases hq with ⟨rfl, hJ', hlt⟩ | ⟨rfl, hK'⟩
        · obtain ⟨e₂, a₂, w₂, hq₂, harr₂⟩ := ih _ (by omega) a₁ w₁ rfl hJ'
          exact ⟨e₂, a₂, w₂, hq₂, .of_steps (harr _ hgl) harr₂⟩
        · obtain ⟨e₂, a₂, w₂, hq₂, harr₂⟩ := keyK _ a₁ w₁ rfl hK'
          exact ⟨e₂, a₂, w₂, hq₂, .of_steps (harr _ hgm) harr₂⟩
      | ret => exact ⟨_, a₁, w₁, hq, harr⟩
      | panic ch => exact ⟨_, a₁, w₁, hq, harr⟩
      | outgrown => exact ⟨_, a₁, w₁, hq, harr⟩
  have hinJ : ∀ a w, J a w → y.wp P (jump2 l m J K Q) a w := fun a w hJ => Code.wp_mono (jumps_mono (fun _ _ _ h => h.imp (fun h => ⟨h.1, h.2.1⟩) id)) (passJ a w hJ hinK)
  obtain ⟨e, a₁, w₁, hq, harr⟩ := first hinJ b (.inScope c :: k) cs
  cases e with
  | normal => exact ⟨.normal, a₁, w₁, hq, .head step_scope (Steps.trans harr (.one step_inScope))⟩
  | exit id => exact ⟨.exit id, a₁, w₁, hq, fun k' hk => .head step_scope (harr k' (by simp [exitTo, hk]))⟩
  | goto l' =>
    rcases hq with ⟨rfl, hJ'⟩ | ⟨rfl, hK'⟩
    · obtain ⟨e₂, a₂, w₂, hq₂, harr₂⟩ := keyJ _ a₁ w₁ rfl hJ'
      exact ⟨e₂, a₂, w₂, hq₂, .of_steps (.head step_scope (harr _ hgl)) harr₂⟩
    · obtain ⟨e₂, a₂, w₂, hq₂, harr₂⟩ := keyK _ a₁ w₁ rfl hK'
      exact ⟨e₂, a₂, w₂, hq₂, .of_steps (.head step_scope (harr _ hgm)) harr₂⟩
  | ret => exact ⟨_, a₁, w₁, hq, .of_steps (.one step_scope) harr⟩
  | panic ch => exact ⟨_, a₁, w₁, hq, .of_steps (.one step_scope) harr⟩
  | outgrown => exact ⟨_, a₁, w₁, hq, .of_steps (.one step_scope) harr⟩

/-- In the K-mode (behind label l) the run may only jump to m. -/
theorem wp_jump1_2 {P : Program} {z : Code} {l m : Nat} {J K : Act → World → Prop} {Q : Exit → Act → World → Prop} {a : Act} {w : World} (h : z.wp P (jump1 m K Q) a w) : z.wp P (jump2 l m J K Q) a w :=
  Code.wp_mono (jumps_mono (fun _ _ _ h => .inr h)) h

end Go.Proofs.YtmfpmgelhhbfiaaDoor
