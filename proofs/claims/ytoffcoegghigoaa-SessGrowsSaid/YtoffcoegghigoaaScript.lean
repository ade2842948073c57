/- A region that draws its order, with calls that write or that make memory: its operations in a given order (small ones first; a call stands alone when it is ready) tell of every order. Laws over any program. -/
import Derived.Test.YtoffcoegghigoaaCalm
import Derived.Test.YtoffcoegghigoaaSep
namespace Go.Proofs.Ytoffcoegghigoaa
open Go.RowKit

section
variable {P : Program} {ops : Array Oper} {md : Region.Mode}

/-- The operation came to a value and a new invariant. -/
def CameV (P : Program) (V : Value → (World → Prop) → Prop) : Result Next → Prop
  | .ok (.value u) w' => ∃ I', V u I' ∧ I' w'
  | .ok .skip w' => ∃ I', V undef I' ∧ I' w'
  | .ok (.enter f args) w' => Calls P f args w' fun e w'' => ∃ v I', e = .returned v ∧ V v I' ∧ I' w''
  | _ => False
theorem cameV_value (V : Value → (World → Prop) → Prop) (u : Value) (w' : World) : CameV P V (.ok (.value u) w') = ∃ I', V u I' ∧ I' w' := rfl
theorem cameV_skip (V : Value → (World → Prop) → Prop) (w' : World) : CameV P V (.ok .skip w') = ∃ I', V undef I' ∧ I' w' := rfl
theorem cameV_enter (V : Value → (World → Prop) → Prop) (f : Nat) (args : Array Value) (w' : World) : CameV P V (.ok (.enter f args) w') = Calls P f args w' (fun e w'' => ∃ v I', e = .returned v ∧ V v I' ∧ I' w'') := rfl

def StepTo (P : Program) (ops : Array Oper) (I : World → Prop) (o : Oper) (V : Value → (World → Prop) → Prop) (a : Act) : Prop :=
  (Region.wanted o (yielded ops a.tmps) = true ∧ ∀ w, I w → CameV P V ((execOp a.eval o).run P w)) ∨ (Region.wanted o (yielded ops a.tmps) = false ∧ V undef I)
theorem StepTo.same {I : World → Prop} {o : Oper} {V : Value → (World → Prop) → Prop} {a a' : Act} (h : StepTo P ops I o V a) (he : execOp a'.eval o = execOp a.eval o) (hw : Region.wanted o (yielded ops a'.tmps) = Region.wanted o (yielded ops a.tmps)) : StepTo P ops I o V a' := by
  unfold StepTo at *
  rw [he, hw]
  exact h
theorem StepTo.op {I : World → Prop} {i : Nat} {o : Oper} {V : Value → (World → Prop) → Prop} {a : Act} {w : World} {K : Act → World → Prop} {Q : Exit → Act → World → Prop} (hi : ops[i]? = some o) (h : StepTo P ops I o V a) (hw : I w)
    (hK : ∀ v I', V v I' → ∀ w, I' w → K (a.put o.dst v) w) : wpOp P ops Q i K a w := by
  unfold wpOp
  simp only [hi]
  rcases h with ⟨h1, h2⟩ | ⟨h1, h2⟩
  · rw [if_pos h1]
    left
    have h3 := h2 w hw
    unfold Oper.wp
    generalize (execOp a.eval o).run P w = r at h3 ⊢
    cases r with
    | ok n w' =>
      cases n <;> simp only [CameV] at h3 <;> simp only [Oper.upon]
      case value u => obtain ⟨I', h4, h5⟩ := h3; exact hK _ _ h4 _ h5
      case skip => obtain ⟨I', h4, h5⟩ := h3; exact hK _ _ h4 _ h5
      case enter f args => exact h3.mono fun e w'' ⟨v, I', he, h4, h5⟩ => by subst he; exact hK _ _ h4 _ h5
    | halt x w' => simp only [CameV] at h3
  · rw [if_neg (by simp [h1])]
    exact hK _ _ h2 _ hw

/-- One value in every world of every invariant of the class. -/
def SmallOp (P : Program) (ops : Array Oper) (C : (World → Prop) → Prop) (o : Oper) (v : Value) (a : Act) : Prop :=
  (Region.wanted o (yielded ops a.tmps) = true ∧ ∀ I, C I → ∀ w, I w → CameTo P I v ((execOp a.eval o).run P w)) ∨ (Region.wanted o (yielded ops a.tmps) = false ∧ v = undef)
theorem SmallOp.same {C : (World → Prop) → Prop} {o : Oper} {v : Value} {a a' : Act} (h : SmallOp P ops C o v a) (he : execOp a'.eval o = execOp a.eval o) (hw : Region.wanted o (yielded ops a'.tmps) = Region.wanted o (yielded ops a.tmps)) : SmallOp P ops C o v a' := by
  unfold SmallOp at *
  rw [he, hw]
  exact h
theorem SmallOp.step {C : (World → Prop) → Prop} {o : Oper} {v : Value} {a : Act} (h : SmallOp P ops C o v a) {I : World → Prop} (hI : C I) : StepTo P ops I o (fun u I' => u = v ∧ I' = I) a := by
  rcases h with ⟨h1, h2⟩ | ⟨h1, rfl⟩
  · refine .inl ⟨h1, fun w hw => ?_⟩
    have h3 := h2 I hI w hw
    generalize (execOp a.eval o).run P w = r at h3 ⊢
    cases r with
    | ok n w' =>
      cases n <;> simp only [CameTo] at h3 <;> simp only [CameV]
      case value u => exact ⟨I, ⟨h3.1, rfl⟩, h3.2⟩
      case skip => exact ⟨I, ⟨h3.1.symm, rfl⟩, h3.2⟩
      case enter f args => exact h3.mono fun e w'' ⟨he, hi⟩ => ⟨v, I, he, ⟨rfl, rfl⟩, hi⟩
    | halt x w' => simp only [CameTo] at h3
  · exact .inr ⟨h1, rfl, rfl⟩

def AnyI (P : Program) (md : Region.Mode) (ops : Array Oper) (Q : Act → World → Prop) (C : (World → Prop) → Prop) : Nat → Array Bool → Act → (World → Prop) → Prop
  | 0, listed, a, I => Region.ready md ops listed = [] ∧ ∀ w, I w → Q a w
  | n + 1, listed, a, I => (Region.ready md ops listed = [] → ∀ w, I w → Q a w) ∧
    ∀ i ∈ Region.ready md ops listed, ∃ o V, ops[i]? = some o ∧ StepTo P ops I o V a ∧ ∀ v I', V v I' → C I' ∧ AnyI P md ops Q C n (listed.setIfInBounds i true) (a.put o.dst v) I'
theorem AnyI.any {Q : Act → World → Prop} {Q' : Exit → Act → World → Prop} {C : (World → Prop) → Prop} (hQ : ∀ a w, Q a w → Q' .normal a w) : ∀ (n : Nat) (listed : Array Bool) (a : Act) (I : World → Prop) (w : World), I w → AnyI P md ops Q C n listed a I → wpAny P md ops Q' n listed a w
  | 0, _, _, _, _, hw, h => ⟨h.1, hQ _ _ (h.2 _ hw)⟩
  | n + 1, _, _, _, _, hw, h => ⟨fun h0 => hQ _ _ (h.1 h0 _ hw), fun i hi => by
      obtain ⟨o, V, h1, h2, h3⟩ := h.2 i hi
      exact h2.op h1 hw (fun v I' hv w' hw' => AnyI.any hQ n _ _ _ w' hw' (h3 v I' hv).2)⟩
theorem AnyI.mono {Q : Act → World → Prop} {C C' : (World → Prop) → Prop} (hC : ∀ I, C' I → C I) : ∀ {n : Nat} {listed : Array Bool} {a : Act} {I : World → Prop}, AnyI P md ops Q C' n listed a I → AnyI P md ops Q C n listed a I
  | 0, _, _, _, h => h
  | n + 1, _, _, _, h => ⟨h.1, fun i hi => by
      obtain ⟨o, V, h1, h2, h3⟩ := h.2 i hi
      exact ⟨o, V, h1, h2, fun v I' hv => ⟨hC _ (h3 v I' hv).1, AnyI.mono hC (h3 v I' hv).2⟩⟩⟩

/-- A small one that may come first may be taken first. -/
theorem AnyI.first {Q : Act → World → Prop} {C : (World → Prop) → Prop} {i : Nat} {oi : Oper} {v : Value} (hi : ops[i]? = some oi) (hsel : ∀ (j : Nat) (o : Oper) cs b, ops[j]? = some o → o.op ≠ .select cs b) : ∀ (n : Nat) (listed : Array Bool) (a : Act) (I : World → Prop), C I →
    (∀ j oj, ops[j]? = some oj → j ≠ i → listed.getD j true = false → (∀ e ∈ oj.after, Region.binds md e = true → e.on ≠ i) → oi.apart ops oj = true) →
    i ∈ Region.ready md ops listed → SmallOp P ops C oi v a → AnyI P md ops Q C n (listed.setIfInBounds i true) (a.put oi.dst v) I → AnyI P md ops Q C (n + 1) listed a I := by
  intro n
  induction n with
  | zero =>
    intro listed a I hI _ hr hy H
    refine ⟨fun h => (by rw [h] at hr; cases hr), fun j hj => ?_⟩
    by_cases hji : j = i
    · subst hji
      refine ⟨oi, _, hi, hy.step hI, ?_⟩
      rintro v' I' ⟨rfl, rfl⟩
      exact ⟨hI, H⟩
    · have := ready_mono hj hji
      rw [H.1] at this
      cases this
  | succ n ih =>
    intro listed a I hI hfree hr hy H
    refine ⟨fun h => (by rw [h] at hr; cases hr), fun j hj => ?_⟩
    by_cases hji : j = i
    · subst hji
      refine ⟨oi, _, hi, hy.step hI, ?_⟩
      rintro v' I' ⟨rfl, rfl⟩
      exact ⟨hI, H⟩
    · obtain ⟨oj, V, hoj, hyj, Hj⟩ := H.2 j (ready_mono hj hji)
      obtain ⟨hjun, oj', hoj', hall⟩ := mem_ready.1 hj
      obtain rfl : oj' = oj := by rw [hoj] at hoj'; exact (Option.some.inj hoj').symm
      have hnot : ∀ e ∈ oj'.after, Region.binds md e = true → e.on ≠ i := fun e he hb heq => by
        have h1 := hall e he hb
        have h0 := (mem_ready.1 hr).1
        rw [heq] at h1
        rcases Nat.lt_or_ge i listed.size with h' | h'
        · simp [h'] at h0 h1; rw [h0] at h1; cases h1
        · simp [Array.getElem?_eq_none h'] at h1
      obtain ⟨h1, h2, h3⟩ := Oper.apart_spec (hfree j oj' hoj hji hjun hnot)
      have hyj' : StepTo P ops I oj' V a := hyj.same (execOp_put oj' (fun cs b => hsel j oj' cs b hoj) a oi.dst v h1).symm (wanted_put oj' a oi.dst v h1).symm
      refine ⟨oj', V, hoj, hyj', fun u I' hu => ⟨(Hj u I' hu).1, ?_⟩⟩
      have hyi' : SmallOp P ops C oi v (a.put oj'.dst u) := hy.same (execOp_put oi (fun cs b => hsel i oi cs b hi) a oj'.dst u h3) (wanted_put oi a oj'.dst u h3)
      refine ih _ _ I' (Hj u I' hu).1 (fun k ok hk hki hun hno => ?_) (ready_mono hr (Ne.symm hji)) hyi' ?_
      · refine hfree k ok hk hki ?_ hno
        by_cases hjk : j = k
        · subst hjk; exact hjun
        · rw [getD_set_ne true hjk] at hun; exact hun
      · rw [Array.setIfInBounds_comm _ _ hji, ← Act.put_comm a v u h2]
        exact (Hj u I' hu).2

/-- The operations in this order: (i, false) small, (i, true) alone. -/
def Script (P : Program) (ops : Array Oper) (Q : Act → World → Prop) : List (Nat × Bool) → ((World → Prop) → Prop) → Act → (World → Prop) → Prop
  | [], _, a, I => ∀ w, I w → Q a w
  | (i, false) :: rest, C, a, I => ∃ o v, ops[i]? = some o ∧ SmallOp P ops C o v a ∧ Script P ops Q rest C (a.put o.dst v) I
  | (i, true) :: rest, C, a, I => ∃ o V, ops[i]? = some o ∧ StepTo P ops I o V a ∧ ∀ v I', V v I' → ∃ C', (∀ I, C' I → C I) ∧ C' I' ∧ Script P ops Q rest C' (a.put o.dst v) I'
def scriptB (md : Region.Mode) (ops : Array Oper) : List (Nat × Bool) → Array Bool → Bool
  | [], listed => (Region.ready md ops listed).isEmpty
  | (i, false) :: rest, listed => (Region.ready md ops listed).contains i && Region.free md ops listed i && scriptB md ops rest (listed.setIfInBounds i true)
  | (i, true) :: rest, listed => decide (Region.ready md ops listed = [i]) && scriptB md ops rest (listed.setIfInBounds i true)
theorem Script.any {Q : Act → World → Prop} (hs : Region.noSelect ops = true) : ∀ (l : List (Nat × Bool)) (C : (World → Prop) → Prop) (listed : Array Bool) (a : Act) (I : World → Prop), C I → scriptB md ops l listed = true → Script P ops Q l C a I → AnyI P md ops Q C l.length listed a I
  | [], _, _, _, _, _, hB, h => ⟨by simpa [scriptB] using hB, h⟩
  | (i, false) :: l, C, listed, a, I, hC, hB, ⟨o, v, h0, hy, h⟩ => by
    simp only [scriptB, Bool.and_eq_true] at hB
    obtain ⟨⟨hr, hf⟩, hB'⟩ := hB
    exact AnyI.first h0 (Region.noSelect_spec hs) l.length listed a I hC (Region.free_spec h0 hf) (by simpa using hr) hy (Script.any hs l C _ _ I hC hB' h)
  | (i, true) :: l, C, listed, a, I, hC, hB, ⟨o, V, h0, hy, h⟩ => by
    simp only [scriptB, Bool.and_eq_true, decide_eq_true_eq] at hB
    obtain ⟨hr, hB'⟩ := hB
    refine ⟨fun h => (by rw [hr] at h; cases h), fun j hj => ?_⟩
    rw [hr] at hj
    obtain rfl : j = i := by simpa using hj
    refine ⟨o, V, h0, hy, fun v I' hv => ?_⟩
    obtain ⟨C', h1, h2, h3⟩ := h v I' hv
    exact ⟨h1 _ h2, AnyI.mono h1 (Script.any hs l C' _ _ I' h2 hB' h3)⟩

/-- A REGION THAT DRAWS, by a script. -/
theorem wp_script {id : Nat} {Q : Exit → Act → World → Prop} {a : Act} {w : World} {l : List Oper} (s : List (Nat × Bool)) (C : (World → Prop) → Prop) (I : World → Prop) (hm : P.follows .mixedOrders = true) (hl : s.length = l.length) (hs : Region.noSelect l.toArray = true)
    (hB : scriptB .any l.toArray s (Array.replicate l.toArray.size false) = true) (h0 : I w.drew) (hC : C I) (h : Script P l.toArray (fun a w => Q .normal a w) s C a I) : (Code.region id l.toArray true).wp P Q a w := by
  refine wp_region_any hm ?_
  have := AnyI.any (Q' := Q) (fun _ _ h => h) _ _ _ _ _ h0 (Script.any hs s C _ a I hC hB h)
  rwa [hl] at this

variable {Q : Act → World → Prop} {rest : List (Nat × Bool)} {C : (World → Prop) → Prop} {a : Act} {I : World → Prop} {i : Nat} {o : Oper}
theorem script_nil (h : ∀ w, I w → Q a w) : Script P ops Q [] C a I := h
theorem script_step (ho : ops[i]? = some o) (hw : Region.wanted o (yielded ops a.tmps) = true) {v : Value} (h1 : ∀ I, C I → ∀ w, I w → CameTo P I v ((execOp a.eval o).run P w))
    (h : ∀ K : Act → Prop, (∀ a, Script P ops Q rest C a I → K a) → K (a.put o.dst v)) : Script P ops Q ((i, false) :: rest) C a I := ⟨o, v, ho, .inl ⟨hw, h1⟩, h _ (fun _ h => h)⟩
theorem script_pass (ho : ops[i]? = some o) (hw : Region.wanted o (yielded ops a.tmps) = false)
    (h : ∀ K : Act → Prop, (∀ a, Script P ops Q rest C a I → K a) → K (a.put o.dst undef)) : Script P ops Q ((i, false) :: rest) C a I := ⟨o, undef, ho, .inr ⟨hw, rfl⟩, h _ (fun _ h => h)⟩
theorem script_big (V : Value → (World → Prop) → Prop) (ho : ops[i]? = some o) (hw : Region.wanted o (yielded ops a.tmps) = true) (h1 : ∀ w, I w → CameV P V ((execOp a.eval o).run P w))
    (h : ∀ v I', V v I' → ∃ C', (∀ I, C' I → C I) ∧ C' I' ∧ ∀ K : Act → Prop, (∀ a, Script P ops Q rest C' a I' → K a) → K (a.put o.dst v)) : Script P ops Q ((i, true) :: rest) C a I :=
  ⟨o, V, ho, .inl ⟨hw, h1⟩, fun v I' hv => by obtain ⟨C', h2, h3, h4⟩ := h v I' hv; exact ⟨C', h2, h3, h4 _ (fun _ h => h)⟩⟩
theorem script_none (hC : C I) (ho : ops[i]? = some o) (hw : Region.wanted o (yielded ops a.tmps) = false)
    (h : ∀ K : Act → Prop, (∀ a, Script P ops Q rest C a I → K a) → K (a.put o.dst undef)) : Script P ops Q ((i, true) :: rest) C a I :=
  ⟨o, fun u I' => u = undef ∧ I' = I, ho, .inr ⟨hw, rfl, rfl⟩, fun v I' hv => by obtain ⟨rfl, rfl⟩ := hv; exact ⟨C, fun _ h => h, hC, h _ (fun _ h => h)⟩⟩
end

/-- Invariants that new memory leaves be, and under which B holds. -/
def Fam (B : World → Prop) (I : World → Prop) : Prop := (∀ w w', I w → Below w.heap.size w w' → I w') ∧ ∀ w, I w → B w
theorem Fam.mono {B B' : World → Prop} (h : ∀ w, B' w → B w) (I : World → Prop) (hI : Fam B' I) : Fam B I := ⟨hI.1, fun w hw => h w (hI.2 w hw)⟩
theorem Fam.st {S : Nat → Prop} {w0 : World} {B : World → Prop} {L : List SP} (h : ∀ w, St S w0 w L → B w) : Fam B (fun w => St S w0 w L) := ⟨fun _ _ H hb => H.past hb, h⟩
theorem Fam.call {P : Program} {B I : World → Prop} {w : World} {fid : Nat} {args : Array Value} {p : Ending → Prop} (hI : Fam B I) (h : I w) (hc : Calls P fid args w fun e w2 => p e ∧ Below w.heap.size w w2) :
    Calls P fid args w fun e w2 => p e ∧ I w2 := hc.mono fun _ _ ⟨h1, h2⟩ => ⟨h1, hI.1 _ _ h h2⟩
theorem Fam.call0 {P : Program} {I : World → Prop} {w : World} {fid : Nat} {args : Array Value} {p : Ending → Prop} (h : I w) (hc : Calls P fid args w fun e w2 => p e ∧ w2 = w) :
    Calls P fid args w fun e w2 => p e ∧ I w2 := hc.mono fun _ _ ⟨h1, h2⟩ => ⟨h1, h2 ▸ h⟩

theorem hide_rel (R : Value → (World → Prop) → Prop) : ∃ V : Value → (World → Prop) → Prop, Hid (∀ v I', V v I' ↔ R v I') := ⟨R, Lib.hid fun _ _ => Iff.rfl⟩

attribute [go_sem] cameV_value cameV_skip cameV_enter
end Go.Proofs.Ytoffcoegghigoaa
