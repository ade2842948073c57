/- A scope with a label that the run jumps back to, and one that it jumps on to. Laws over any program. -/
import Derived.ScopeJumps
import Derived.WalkMore
import Derived.WalkKit
namespace Go.Proofs.Ytbikjhmdpgoofab
open Go.RowKit

/-- As Q; by a goto to l1: J1, to l0: J0; by any other goto: no way out. -/
def exitTwo (l1 l0 : Nat) (J1 J0 : Act → World → Prop) (Q : Exit → Act → World → Prop) : Exit → Act → World → Prop
  | .goto l, a, w => (l = l1 ∧ J1 a w) ∨ (l = l0 ∧ J0 a w)
  | e, a, w => Q e a w
theorem exitTwo_mono {l1 l0 : Nat} {J1 J1' J0 : Act → World → Prop} {Q : Exit → Act → World → Prop} (h : ∀ a w, J1 a w → J1' a w) (e : Exit) (a : Act) (w : World) (he : exitTwo l1 l0 J1 J0 Q e a w) : exitTwo l1 l0 J1' J0 Q e a w := by
  cases e with
  | goto l => exact he.elim (fun x => .inl ⟨x.1, h _ _ x.2⟩) .inr
  | _ => exact he

theorem wp_scope_two {P : Program} {a : Act} {w : World} {Q : Exit → Act → World → Prop} {c R1 R0 : Code} (l1 l0 : Nat) (J1 J0 : Act → World → Prop) (μ : Act → World → Nat)
    (h1 : findLabel c l1 = some (.seq .skip R1)) (h0 : findLabel c l0 = some (.seq .skip R0))
    (pass : ∀ a w, J1 a w → R1.wp P (exitTwo l1 l0 (fun a' w' => J1 a' w' ∧ μ a' w' < μ a w) J0 Q) a w)
    (bad : ∀ a w, J0 a w → R0.wp P (exitTwo l1 l0 (fun _ _ => False) (fun _ _ => False) Q) a w)
    (first : (∀ a w, J1 a w → R1.wp P (exitTwo l1 l0 J1 J0 Q) a w) → c.wp P (exitTwo l1 l0 J1 J0 Q) a w) : (Code.scope c).wp P Q a w := by
  intro b k cs
  have hg1 : gotoIn l1 (.inScope c :: k) = some (.code (.seq .skip R1) :: .inScope c :: k) := by simp [gotoIn, h1]
  have hg0 : gotoIn l0 (.inScope c :: k) = some (.code (.seq .skip R0) :: .inScope c :: k) := by simp [gotoIn, h0]
  have pass' : ∀ a w, J1 a w → (Code.seq .skip R1).wp P (exitTwo l1 l0 (fun a' w' => J1 a' w' ∧ μ a' w' < μ a w) J0 Q) a w := fun a w h => wp_seq (wp_skip (pass a w h))
  have bad' : ∀ a w, J0 a w → (Code.seq .skip R0).wp P (exitTwo l1 l0 (fun _ _ => False) (fun _ _ => False) Q) a w := fun a w h => wp_seq (wp_skip (bad a w h))
  have first' := first (fun a w h => wp_mono (pass a w h) (exitTwo_mono (fun _ _ h => h.1)))
  have key0 : ∀ a w, J0 a w → ∃ e a' w', Q e a' w' ∧ Arrives P (lone (b.at a (.code (.seq .skip R0) :: .inScope c :: k)) cs w) b k cs e a' w' := by
    intro a w hJ
    obtain ⟨e, a₁, w₁, hq, harr⟩ := bad' a w hJ b (.inScope c :: k) cs
    cases e with
    | normal => exact ⟨.normal, a₁, w₁, hq, Steps.trans harr (.one step_inScope)⟩
    | exit id => exact ⟨.exit id, a₁, w₁, hq, fun k' hk => harr k' (by simp [exitTo, hk])⟩
    | goto l' => exact (hq.elim (fun x => x.2) (fun x => x.2)).elim
    | ret => exact ⟨_, a₁, w₁, hq, harr⟩
    | panic ch => exact ⟨_, a₁, w₁, hq, harr⟩
    | outgrown => exact ⟨_, a₁, w₁, hq, harr⟩
  have key : ∀ n a w, μ a w = n → J1 a w → ∃ e a' w', Q e a' w' ∧ Arrives P (lone (b.at a (.code (.seq .skip R1) :: .inScope c :: k)) cs w) b k cs e a' w' := by
    intro n
    induction n using Nat.strongRecOn with
    | _ n ih =>
      intro a w hn hJ
      obtain ⟨e, a₁, w₁, hq, harr⟩ := pass' a w hJ b (.inScope c :: k) cs
      cases e with
      | normal => exact ⟨.normal, a₁, w₁, hq, Steps.trans harr (.one step_inScope)⟩
      | exit id => exact ⟨.exit id, a₁, w₁, hq, fun k' hk => harr k' (by simp [exitTo, hk])⟩
      | goto l' =>
        rcases hq with ⟨rfl, hJ', hlt⟩ | ⟨rfl, hJ'⟩
        · obtain ⟨e₂, a₂, w₂, hq₂, harr₂⟩ := ih _ (by omega) a₁ w₁ rfl hJ'
          exact ⟨e₂, a₂, w₂, hq₂, .of_steps (harr _ hg1) harr₂⟩
        · obtain ⟨e₂, a₂, w₂, hq₂, harr₂⟩ := key0 a₁ w₁ hJ'
          exact ⟨e₂, a₂, w₂, hq₂, .of_steps (harr _ hg0) harr₂⟩
      | ret => exact ⟨_, a₁, w₁, hq, harr⟩
      | panic ch => exact ⟨_, a₁, w₁, hq, harr⟩
      | outgrown => exact ⟨_, a₁, w₁, hq, harr⟩
  obtain ⟨e, a₁, w₁, hq, harr⟩ := first' b (.inScope c :: k) cs
  cases e with
  | normal => exact ⟨.normal, a₁, w₁, hq, .head step_scope (Steps.trans harr (.one step_inScope))⟩
  | exit id => exact ⟨.exit id, a₁, w₁, hq, fun k' hk => .head step_scope (harr k' (by simp [exitTo, hk]))⟩
  | goto l' =>
    rcases hq with ⟨rfl, hJ'⟩ | ⟨rfl, hJ'⟩
    · obtain ⟨e₂, a₂, w₂, hq₂, harr₂⟩ := key _ a₁ w₁ rfl hJ'
      exact ⟨e₂, a₂, w₂, hq₂, .of_steps (.head step_scope (harr _ hg1)) harr₂⟩
    · obtain ⟨e₂, a₂, w₂, hq₂, harr₂⟩ := key0 a₁ w₁ hJ'
      exact ⟨e₂, a₂, w₂, hq₂, .of_steps (.head step_scope (harr _ hg0)) harr₂⟩
  | ret => exact ⟨_, a₁, w₁, hq, .of_steps (.one step_scope) harr⟩
  | panic ch => exact ⟨_, a₁, w₁, hq, .of_steps (.one step_scope) harr⟩
  | outgrown => exact ⟨_, a₁, w₁, hq, .of_steps (.one step_scope) harr⟩

end Go.Proofs.Ytbikjhmdpgoofab
