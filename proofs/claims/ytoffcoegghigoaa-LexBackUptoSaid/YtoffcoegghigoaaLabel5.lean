/- A scope with five labels, and a measure that falls at each goto. Laws over any program. -/
import Derived.ScopeJumps
import Derived.WalkMore
import Derived.WalkKit
namespace Go.Proofs.Ytoffcoegghigoaa
open Go.RowKit

/-- As Q; by a goto to l: J l. -/
def exitFam (J : Nat → Act → World → Prop) (Q : Exit → Act → World → Prop) : Exit → Act → World → Prop
  | .goto l, a, w => J l a w
  | e, a, w => Q e a w
theorem exitFam_mono {J J' : Nat → Act → World → Prop} {Q : Exit → Act → World → Prop} (h : ∀ l a w, J l a w → J' l a w) (e : Exit) (a : Act) (w : World) (he : exitFam J Q e a w) : exitFam J' Q e a w := by
  cases e with
  | goto l => exact h _ _ _ he
  | _ => exact he
theorem exitFam_goto {J : Nat → Act → World → Prop} {Q : Exit → Act → World → Prop} {l : Nat} {a : Act} {w : World} (h : J l a w) : exitFam J Q (.goto l) a w := h

theorem wp_scope_fam {P : Program} {a : Act} {w : World} {Q : Exit → Act → World → Prop} {c : Code} (J : Nat → Act → World → Prop) (μ : Nat → Act → World → Nat) (R : Nat → Code)
    (hR : ∀ l a w, J l a w → findLabel c l = some (.seq .skip (R l)))
    (round : ∀ l a w, J l a w → (R l).wp P (exitFam (fun l' a' w' => J l' a' w' ∧ μ l' a' w' < μ l a w) Q) a w)
    (first : (∀ l a w, J l a w → (R l).wp P (exitFam J Q) a w) → c.wp P (exitFam J Q) a w) : (Code.scope c).wp P Q a w := by
  intro b k cs
  have hg : ∀ l a w, J l a w → gotoIn l (.inScope c :: k) = some (.code (.seq .skip (R l)) :: .inScope c :: k) := fun l a w h => by simp [gotoIn, hR l a w h]
  have round' : ∀ l a w, J l a w → (Code.seq .skip (R l)).wp P (exitFam (fun l' a' w' => J l' a' w' ∧ μ l' a' w' < μ l a w) Q) a w := fun l a w h => wp_seq (wp_skip (round l a w h))
  have first' := first (fun l a w h => wp_mono (round l a w h) (exitFam_mono (fun _ _ _ h => h.1)))
  have key : ∀ n l a w, μ l a w = n → J l a w → ∃ e a' w', Q e a' w' ∧ Arrives P (lone (b.at a (.code (.seq .skip (R l)) :: .inScope c :: k)) cs w) b k cs e a' w' := by
    intro n
    induction n using Nat.strongRecOn with
    | _ n ih =>
      intro l a w hn hJ
      obtain ⟨e, a₁, w₁, hq, harr⟩ := round' l a w hJ b (.inScope c :: k) cs
      cases e with
      | normal => exact ⟨.normal, a₁, w₁, hq, Steps.trans harr (.one step_inScope)⟩
      | exit id => exact ⟨.exit id, a₁, w₁, hq, fun k' hk => harr k' (by simp [exitTo, hk])⟩
      | goto l' =>
        obtain ⟨hJ', hlt⟩ := hq
        obtain ⟨e₂, a₂, w₂, hq₂, harr₂⟩ := ih _ (by omega) l' a₁ w₁ rfl hJ'
        exact ⟨e₂, a₂, w₂, hq₂, .of_steps (harr _ (hg _ _ _ hJ')) harr₂⟩
      | ret => exact ⟨_, a₁, w₁, hq, harr⟩
      | panic ch => exact ⟨_, a₁, w₁, hq, harr⟩
      | outgrown => exact ⟨_, a₁, w₁, hq, harr⟩
  obtain ⟨e, a₁, w₁, hq, harr⟩ := first' b (.inScope c :: k) cs
  cases e with
  | normal => exact ⟨.normal, a₁, w₁, hq, .head step_scope (Steps.trans harr (.one step_inScope))⟩
  | exit id => exact ⟨.exit id, a₁, w₁, hq, fun k' hk => .head step_scope (harr k' (by simp [exitTo, hk]))⟩
  | goto l' =>
    obtain ⟨e₂, a₂, w₂, hq₂, harr₂⟩ := key _ l' a₁ w₁ rfl hq
    exact ⟨e₂, a₂, w₂, hq₂, .of_steps (.head step_scope (harr _ (hg _ _ _ hq))) harr₂⟩
  | ret => exact ⟨_, a₁, w₁, hq, .of_steps (.one step_scope) harr⟩
  | panic ch => exact ⟨_, a₁, w₁, hq, .of_steps (.one step_scope) harr⟩
  | outgrown => exact ⟨_, a₁, w₁, hq, .of_steps (.one step_scope) harr⟩

theorem find_hit {l : Nat} {b : Code} : findLabel (.seq (.label l) b) l = some (.seq .skip b) := by simp [findLabel]
theorem find_right {l : Nat} {a b r : Code} (h : findLabel a l = none) (h2 : findLabel b l = some r) : findLabel (.seq a b) l = some r := by simp [findLabel, h, h2]
theorem none_region {id : Nat} {ops : Array Oper} {fl : Bool} {l : Nat} : findLabel (.region id ops fl) l = none := by simp [findLabel]
theorem none_cond {x : Operand} {a b : Code} {l : Nat} : findLabel (.cond x a b) l = none := by simp [findLabel]
theorem none_block {k : Nat} {a : Code} {l : Nat} : findLabel (.block k a) l = none := by simp [findLabel]
theorem none_goto {k l : Nat} : findLabel (.goto k) l = none := by simp [findLabel]
theorem none_ret {l : Nat} : findLabel .ret l = none := by simp [findLabel]
theorem none_skip {l : Nat} : findLabel .skip l = none := by simp [findLabel]
theorem none_label {k l : Nat} (h : (k == l) = false) : findLabel (.label k) l = none := by simp only [findLabel, h]; rfl
theorem none_seq {a b : Code} {l : Nat} (h : findLabel a l = none) (h2 : findLabel b l = none) : findLabel (.seq a b) l = none := by simp [findLabel, h, h2]
/-- Five labels, 0 to 4. -/
def pick5 {α : Type} (x0 x1 x2 x3 x4 : α) : Nat → α
  | 0 => x0
  | 1 => x1
  | 2 => x2
  | 3 => x3
  | _ => x4
theorem wp_scope_five {P : Program} {a : Act} {w : World} {Q : Exit → Act → World → Prop} {c R0 R1 R2 R3 R4 : Code} (J : Nat → Act → World → Prop) (μ : Nat → Act → World → Nat)
    (hJ : ∀ l a w, J l a w → l < 5)
    (h0 : findLabel c 0 = some (.seq .skip R0)) (h1 : findLabel c 1 = some (.seq .skip R1)) (h2 : findLabel c 2 = some (.seq .skip R2)) (h3 : findLabel c 3 = some (.seq .skip R3)) (h4 : findLabel c 4 = some (.seq .skip R4))
    (r0 : ∀ a w, J 0 a w → R0.wp P (exitFam (fun l' a' w' => J l' a' w' ∧ μ l' a' w' < μ 0 a w) Q) a w)
    (r1 : ∀ a w, J 1 a w → R1.wp P (exitFam (fun l' a' w' => J l' a' w' ∧ μ l' a' w' < μ 1 a w) Q) a w)
    (r2 : ∀ a w, J 2 a w → R2.wp P (exitFam (fun l' a' w' => J l' a' w' ∧ μ l' a' w' < μ 2 a w) Q) a w)
    (r3 : ∀ a w, J 3 a w → R3.wp P (exitFam (fun l' a' w' => J l' a' w' ∧ μ l' a' w' < μ 3 a w) Q) a w)
    (r4 : ∀ a w, J 4 a w → R4.wp P (exitFam (fun l' a' w' => J l' a' w' ∧ μ l' a' w' < μ 4 a w) Q) a w)
    (first : (∀ a w, J 1 a w → R1.wp P (exitFam J Q) a w) → c.wp P (exitFam J Q) a w) : (Code.scope c).wp P Q a w := by
  have five : ∀ l, l < 5 → l = 0 ∨ l = 1 ∨ l = 2 ∨ l = 3 ∨ l = 4 := fun l h => by omega
  refine wp_scope_fam J μ (pick5 R0 R1 R2 R3 R4) (fun l a w h => ?_) (fun l a w h => ?_) (fun h => first (h 1))
  · rcases five l (hJ l a w h) with rfl | rfl | rfl | rfl | rfl
    · exact h0
    · exact h1
    · exact h2
    · exact h3
    · exact h4
  · rcases five l (hJ l a w h) with rfl | rfl | rfl | rfl | rfl
    · exact r0 a w h
    · exact r1 a w h
    · exact r2 a w h
    · exact r3 a w h
    · exact r4 a w h

end Go.Proofs.Ytoffcoegghigoaa
