/- A region that draws its order, by a plan: small operations first, a call alone, or two that may come in either order. Laws over any program. -/
import Derived.Test.YtoffcoegghigoaaScript
namespace Go.Proofs.Ytoffcoegghigoaa
open Go.RowKit

inductive Plan where
  | nil
  | small (i : Nat) (rest : Plan)
  | alone (i : Nat) (rest : Plan)
  | fork (i j : Nat) (pi pj : Plan)
def Plan.count : Plan → Nat
  | .nil => 0
  | .small _ r => r.count + 1
  | .alone _ r => r.count + 1
  | .fork _ _ a _ => a.count + 1
/-- Small ones, one behind the other. -/
def Plan.smalls (is : List Nat) (r : Plan) : Plan := is.foldr Plan.small r

section
variable {P : Program} {ops : Array Oper} {md : Region.Mode}
def PlanS (P : Program) (ops : Array Oper) (Q : Act → World → Prop) : Plan → ((World → Prop) → Prop) → Act → (World → Prop) → Prop
  | .nil, _, a, I => ∀ w, I w → Q a w
  | .small i rest, C, a, I => ∃ o v, ops[i]? = some o ∧ SmallOp P ops C o v a ∧ PlanS P ops Q rest C (a.put o.dst v) I
  | .alone i rest, C, a, I => ∃ o V, ops[i]? = some o ∧ StepTo P ops I o V a ∧ ∀ v I', V v I' → ∃ C', (∀ I, C' I → C I) ∧ C' I' ∧ PlanS P ops Q rest C' (a.put o.dst v) I'
  | .fork i j pi pj, C, a, I => (∃ o V, ops[i]? = some o ∧ StepTo P ops I o V a ∧ ∀ v I', V v I' → ∃ C', (∀ I, C' I → C I) ∧ C' I' ∧ PlanS P ops Q pi C' (a.put o.dst v) I') ∧
      ∃ o V, ops[j]? = some o ∧ StepTo P ops I o V a ∧ ∀ v I', V v I' → ∃ C', (∀ I, C' I → C I) ∧ C' I' ∧ PlanS P ops Q pj C' (a.put o.dst v) I'
def planB (md : Region.Mode) (ops : Array Oper) : Plan → Array Bool → Bool
  | .nil, listed => (Region.ready md ops listed).isEmpty
  | .small i rest, listed => (Region.ready md ops listed).contains i && Region.free md ops listed i && planB md ops rest (listed.setIfInBounds i true)
  | .alone i rest, listed => decide (Region.ready md ops listed = [i]) && planB md ops rest (listed.setIfInBounds i true)
  | .fork i j pi pj, listed => decide (Region.ready md ops listed = [i, j]) && decide (pi.count = pj.count) && planB md ops pi (listed.setIfInBounds i true) && planB md ops pj (listed.setIfInBounds j true)
theorem PlanS.any {Q : Act → World → Prop} (hs : Region.noSelect ops = true) : ∀ (p : Plan) (C : (World → Prop) → Prop) (listed : Array Bool) (a : Act) (I : World → Prop), C I → planB md ops p listed = true → PlanS P ops Q p C a I → AnyI P md ops Q C p.count listed a I
  | .nil, _, _, _, _, _, hB, h => ⟨by simpa [planB] using hB, h⟩
  | .small i l, C, listed, a, I, hC, hB, ⟨o, v, h0, hy, h⟩ => by
    simp only [planB, Bool.and_eq_true] at hB
    obtain ⟨⟨hr, hf⟩, hB'⟩ := hB
    exact AnyI.first h0 (Region.noSelect_spec hs) l.count listed a I hC (Region.free_spec h0 hf) (by simpa using hr) hy (PlanS.any hs l C _ _ I hC hB' h)
  | .alone i l, C, listed, a, I, hC, hB, ⟨o, V, h0, hy, h⟩ => by
    simp only [planB, Bool.and_eq_true, decide_eq_true_eq] at hB
    obtain ⟨hr, hB'⟩ := hB
    refine ⟨fun h => (by rw [hr] at h; cases h), fun j hj => ?_⟩
    rw [hr] at hj
    obtain rfl : j = i := by simpa using hj
    refine ⟨o, V, h0, hy, fun v I' hv => ?_⟩
    obtain ⟨C', h1, h2, h3⟩ := h v I' hv
    exact ⟨h1 _ h2, AnyI.mono h1 (PlanS.any hs l C' _ _ I' h2 hB' h3)⟩
  | .fork i j pi pj, C, listed, a, I, hC, hB, ⟨hi, hj⟩ => by
    simp only [planB, Bool.and_eq_true, decide_eq_true_eq] at hB
    obtain ⟨⟨⟨hr, hcnt⟩, hBi⟩, hBj⟩ := hB
    refine ⟨fun h => (by rw [hr] at h; cases h), fun k hk => ?_⟩
    rw [hr] at hk
    rcases (show k = i ∨ k = j by simpa using hk) with rfl | rfl
    · obtain ⟨o, V, h0, hy, h⟩ := hi
      refine ⟨o, V, h0, hy, fun v I' hv => ?_⟩
      obtain ⟨C', h1, h2, h3⟩ := h v I' hv
      exact ⟨h1 _ h2, AnyI.mono h1 (PlanS.any hs pi C' _ _ I' h2 hBi h3)⟩
    · obtain ⟨o, V, h0, hy, h⟩ := hj
      refine ⟨o, V, h0, hy, fun v I' hv => ?_⟩
      obtain ⟨C', h1, h2, h3⟩ := h v I' hv
      refine ⟨h1 _ h2, AnyI.mono h1 ?_⟩
      rw [hcnt]
      exact PlanS.any hs pj C' _ _ I' h2 hBj h3

/-- A REGION THAT DRAWS, by a plan. -/
theorem wp_plan {id : Nat} {Q : Exit → Act → World → Prop} {a : Act} {w : World} {l : List Oper} (s : Plan) (C : (World → Prop) → Prop) (I : World → Prop) (hm : P.follows .mixedOrders = true) (hl : s.count = l.length) (hs : Region.noSelect l.toArray = true)
    (hB : planB .any l.toArray s (Array.replicate l.toArray.size false) = true) (h0 : I w.drew) (hC : C I) (h : PlanS P l.toArray (fun a w => Q .normal a w) s C a I) : (Code.region id l.toArray true).wp P Q a w := by
  refine wp_region_any hm ?_
  have := AnyI.any (Q' := Q) (fun _ _ h => h) _ _ _ _ _ h0 (PlanS.any hs s C _ a I hC hB h)
  rwa [hl] at this

variable {Q : Act → World → Prop} {rest pj : Plan} {C : (World → Prop) → Prop} {a : Act} {I : World → Prop} {i j : Nat} {o o' : Oper}
theorem plan_nil (h : ∀ w, I w → Q a w) : PlanS P ops Q .nil C a I := h
theorem plan_step (ho : ops[i]? = some o) (hw : Region.wanted o (yielded ops a.tmps) = true) {v : Value} (h1 : ∀ I, C I → ∀ w, I w → CameTo P I v ((execOp a.eval o).run P w))
    (h : ∀ K : Act → Prop, (∀ a, PlanS P ops Q rest C a I → K a) → K (a.put o.dst v)) : PlanS P ops Q (.small i rest) C a I := ⟨o, v, ho, .inl ⟨hw, h1⟩, h _ (fun _ h => h)⟩
theorem plan_pass (ho : ops[i]? = some o) (hw : Region.wanted o (yielded ops a.tmps) = false)
    (h : ∀ K : Act → Prop, (∀ a, PlanS P ops Q rest C a I → K a) → K (a.put o.dst undef)) : PlanS P ops Q (.small i rest) C a I := ⟨o, undef, ho, .inr ⟨hw, rfl⟩, h _ (fun _ h => h)⟩
theorem plan_alone (V : Value → (World → Prop) → Prop) (ho : ops[i]? = some o) (hw : Region.wanted o (yielded ops a.tmps) = true) (h1 : ∀ w, I w → CameV P V ((execOp a.eval o).run P w))
    (h : ∀ v I', V v I' → ∃ C', (∀ I, C' I → C I) ∧ C' I' ∧ ∀ K : Act → Prop, (∀ a, PlanS P ops Q rest C' a I' → K a) → K (a.put o.dst v)) : PlanS P ops Q (.alone i rest) C a I :=
  ⟨o, V, ho, .inl ⟨hw, h1⟩, fun v I' hv => by obtain ⟨C', h2, h3, h4⟩ := h v I' hv; exact ⟨C', h2, h3, h4 _ (fun _ h => h)⟩⟩
theorem plan_fork (V V' : Value → (World → Prop) → Prop) (ho : ops[i]? = some o) (ho' : ops[j]? = some o') (hw : Region.wanted o (yielded ops a.tmps) = true) (hw' : Region.wanted o' (yielded ops a.tmps) = true)
    (h1 : ∀ w, I w → CameV P V ((execOp a.eval o).run P w)) (h1' : ∀ w, I w → CameV P V' ((execOp a.eval o').run P w))
    (h : ∀ v I', V v I' → ∃ C', (∀ I, C' I → C I) ∧ C' I' ∧ ∀ K : Act → Prop, (∀ a, PlanS P ops Q rest C' a I' → K a) → K (a.put o.dst v))
    (h' : ∀ v I', V' v I' → ∃ C', (∀ I, C' I → C I) ∧ C' I' ∧ ∀ K : Act → Prop, (∀ a, PlanS P ops Q pj C' a I' → K a) → K (a.put o'.dst v)) : PlanS P ops Q (.fork i j rest pj) C a I :=
  ⟨⟨o, V, ho, .inl ⟨hw, h1⟩, fun v I' hv => by obtain ⟨C', h2, h3, h4⟩ := h v I' hv; exact ⟨C', h2, h3, h4 _ (fun _ h => h)⟩⟩,
    ⟨o', V', ho', .inl ⟨hw', h1'⟩, fun v I' hv => by obtain ⟨C', h2, h3, h4⟩ := h' v I' hv; exact ⟨C', h2, h3, h4 _ (fun _ h => h)⟩⟩⟩
end

end Go.Proofs.Ytoffcoegghigoaa
