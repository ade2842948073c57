/- A region that draws its order: where each operation yields one value in every world of which I holds, and leaves I be, the order of the text tells all: calls that make memory, loads of what I knows, guards that say no. Laws over any program. -/
import Derived.Still
import Derived.StillTail
import Derived.WalkKit
import Derived.Deep.Cut
import Derived.Deep.CutBlock
namespace Go.Proofs.Ytoffcoegghigoaa
open Go.RowKit

section
variable {P : Program} {ops : Array Oper} {md : Region.Mode} {I : World → Prop}

/-- The operation came to this value, and I holds. -/
def CameTo (P : Program) (I : World → Prop) (v : Value) : Result Next → Prop
  | .ok (.value u) w' => u = v ∧ I w'
  | .ok .skip w' => v = undef ∧ I w'
  | .ok (.enter f args) w' => Calls P f args w' fun e w'' => e = .returned v ∧ I w''
  | _ => False
theorem cameTo_value (u v : Value) (w' : World) : CameTo P I v (.ok (.value u) w') = (u = v ∧ I w') := rfl
theorem cameTo_skip (v : Value) (w' : World) : CameTo P I v (.ok .skip w') = (v = undef ∧ I w') := rfl
theorem cameTo_enter (v : Value) (f : Nat) (args : Array Value) (w' : World) : CameTo P I v (.ok (.enter f args) w') = Calls P f args w' (fun e w'' => e = .returned v ∧ I w'') := rfl

/-- In every world of I this operation comes to v. -/
def ComesTo (P : Program) (ops : Array Oper) (I : World → Prop) (o : Oper) (v : Value) (a : Act) : Prop :=
  (Region.wanted o (yielded ops a.tmps) = true ∧ ∀ w, I w → CameTo P I v ((execOp a.eval o).run P w)) ∨ (Region.wanted o (yielded ops a.tmps) = false ∧ v = undef)
theorem ComesTo.same {o : Oper} {v : Value} {a a' : Act} (h : ComesTo P ops I o v a) (he : execOp a'.eval o = execOp a.eval o) (hw : Region.wanted o (yielded ops a'.tmps) = Region.wanted o (yielded ops a.tmps)) : ComesTo P ops I o v a' := by
  unfold ComesTo at *
  rw [he, hw]
  exact h
theorem ComesTo.op {i : Nat} {o : Oper} {v : Value} {a : Act} {w : World} {K : Act → World → Prop} {Q : Exit → Act → World → Prop} (hi : ops[i]? = some o) (h : ComesTo P ops I o v a) (hw : I w) (hK : ∀ w, I w → K (a.put o.dst v) w) : wpOp P ops Q i K a w := by
  unfold wpOp
  simp only [hi]
  rcases h with ⟨h1, h2⟩ | ⟨h1, rfl⟩
  · rw [if_pos h1]
    left
    have h3 := h2 w hw
    unfold Oper.wp
    generalize (execOp a.eval o).run P w = r at h3 ⊢
    cases r with
    | ok n w' =>
      cases n <;> simp only [CameTo] at h3 <;> simp only [Oper.upon]
      case value u => obtain ⟨rfl, h4⟩ := h3; exact hK _ h4
      case skip => obtain ⟨rfl, h4⟩ := h3; exact hK _ h4
      case enter f args => exact h3.mono fun e w'' ⟨he, hi⟩ => by subst he; exact hK _ hi
    | halt x w' => simp only [CameTo] at h3
  · rw [if_neg (by simp [h1])]
    exact hK w hw

/-- Whatever order: the end. -/
def AnyTo (P : Program) (md : Region.Mode) (ops : Array Oper) (I : World → Prop) (Q : Act → Prop) : Nat → Array Bool → Act → Prop
  | 0, listed, a => Region.ready md ops listed = [] ∧ Q a
  | n + 1, listed, a => (Region.ready md ops listed = [] → Q a) ∧
    ∀ i ∈ Region.ready md ops listed, ∃ o v, ops[i]? = some o ∧ ComesTo P ops I o v a ∧ AnyTo P md ops I Q n (listed.setIfInBounds i true) (a.put o.dst v)
theorem AnyTo.any {Q : Act → Prop} {Q' : Exit → Act → World → Prop} (hQ : ∀ a w, Q a → I w → Q' .normal a w) : ∀ (n : Nat) (listed : Array Bool) (a : Act) (w : World), I w → AnyTo P md ops I Q n listed a → wpAny P md ops Q' n listed a w
  | 0, _, _, _, hw, h => ⟨h.1, hQ _ _ h.2 hw⟩
  | n + 1, _, _, _, hw, h => ⟨fun h0 => hQ _ _ (h.1 h0) hw, fun i hi => by
      obtain ⟨o, v, h1, h2, h3⟩ := h.2 i hi
      exact h2.op h1 hw (fun w' hw' => AnyTo.any hQ n _ _ w' hw' h3)⟩

/-- What may come first may be taken first. -/
theorem AnyTo.first {Q : Act → Prop} {i : Nat} {oi : Oper} {v : Value} (hi : ops[i]? = some oi) (hsel : ∀ (j : Nat) (o : Oper) cs b, ops[j]? = some o → o.op ≠ .select cs b) : ∀ (n : Nat) (listed : Array Bool) (a : Act),
    (∀ j oj, ops[j]? = some oj → j ≠ i → listed.getD j true = false → (∀ e ∈ oj.after, Region.binds md e = true → e.on ≠ i) → oi.apart ops oj = true) →
    i ∈ Region.ready md ops listed → ComesTo P ops I oi v a → AnyTo P md ops I Q n (listed.setIfInBounds i true) (a.put oi.dst v) → AnyTo P md ops I Q (n + 1) listed a := by
  intro n
  induction n with
  | zero =>
    intro listed a _ hr hy H
    refine ⟨fun h => (by rw [h] at hr; cases hr), fun j hj => ?_⟩
    by_cases hji : j = i
    · subst hji; exact ⟨oi, v, hi, hy, H⟩
    · have := ready_mono hj hji
      rw [H.1] at this
      cases this
  | succ n ih =>
    intro listed a hfree hr hy H
    refine ⟨fun h => (by rw [h] at hr; cases hr), fun j hj => ?_⟩
    by_cases hji : j = i
    · subst hji; exact ⟨oi, v, hi, hy, H⟩
    · obtain ⟨oj, u, hoj, hyj, Hj⟩ := H.2 j (ready_mono hj hji)
      obtain ⟨hjun, oj', hoj', hall⟩ := mem_ready.1 hj
      obtain rfl : oj' = oj := by rw [hoj] at hoj'; exact (Option.some.inj hoj').symm
      have hnot : ∀ e ∈ oj'.after, Region.binds md e = true → e.on ≠ i := fun e he hb heq => by
        have h1 := hall e he hb
        have h0 := (mem_ready.1 hr).1
        rw [heq] at h1
        rcases Nat.lt_or_ge i listed.size with h' | h'
        · simp [h'] at h0 h1; rw [h0] at h1; cases h1
        · simp [Array.getElem?_eq_none h'] at h1
      obtain ⟨h1, h2, h3⟩ := Oper.apart_spec (hfree j oj' hoj hji hjun hnot)
      have hyj' : ComesTo P ops I oj' u a := hyj.same (execOp_put oj' (fun cs b => hsel j oj' cs b hoj) a oi.dst v h1).symm (wanted_put oj' a oi.dst v h1).symm
      have hyi' : ComesTo P ops I oi v (a.put oj'.dst u) := hy.same (execOp_put oi (fun cs b => hsel i oi cs b hi) a oj'.dst u h3) (wanted_put oi a oj'.dst u h3)
      refine ⟨oj', u, hoj, hyj', ih _ _ (fun k ok hk hki hun hno => ?_) (ready_mono hr (Ne.symm hji)) hyi' ?_⟩
      · refine hfree k ok hk hki ?_ hno
        by_cases hjk : j = k
        · subst hjk; exact hjun
        · rw [getD_set_ne true hjk] at hun; exact hun
      · rw [Array.setIfInBounds_comm _ _ hji, ← Act.put_comm a v u h2]
        exact Hj

/-- The operations in the order of the text. -/
def Calm (P : Program) (ops : Array Oper) (I : World → Prop) (Q : Act → Prop) : List Oper → Act → Prop
  | [], a => Q a
  | o :: rest, a => ∃ v, ComesTo P ops I o v a ∧ Calm P ops I Q rest (a.put o.dst v)
theorem Calm.lex {Q : Act → Prop} (hs : Region.noSelect ops = true) : ∀ (l : List Oper) (k : Nat) (listed : Array Bool) (a : Act), (∀ j, l[j]? = ops[k + j]?) →
    Region.lexFrom md ops l.length k listed = true → Calm P ops I Q l a → AnyTo P md ops I Q l.length listed a
  | [], _, _, _, _, hB, h => ⟨by simpa [Region.lexFrom] using hB, h⟩
  | o :: l, k, listed, a, hl, hB, ⟨v, hy, h⟩ => by
    have h0 : ops[k]? = some o := by simpa using (hl 0).symm
    simp only [List.length_cons, Region.lexFrom, Bool.and_eq_true] at hB
    obtain ⟨⟨hr, hf⟩, hB'⟩ := hB
    exact AnyTo.first h0 (Region.noSelect_spec hs) l.length listed a (Region.free_spec h0 hf) (by simpa using hr) hy
      (Calm.lex hs l (k + 1) _ _ (fun j => by have := hl (j + 1); simpa [Nat.add_assoc, Nat.add_comm 1 j] using this) hB' h)

/-- A REGION THAT DRAWS, under I. -/
theorem wp_calm {id : Nat} {Q : Exit → Act → World → Prop} {a : Act} {w : World} {l : List Oper} (I : World → Prop) (hm : P.follows .mixedOrders = true) (hB : Region.lexB .any l.toArray = true) (h0 : I w.drew)
    (h : Calm P l.toArray I (fun a' => ∀ w', I w' → Q .normal a' w') l a) : (Code.region id l.toArray true).wp P Q a w := by
  simp only [Region.lexB, Bool.and_eq_true] at hB
  refine wp_region_any hm (AnyTo.any (I := I) (Q := fun a' => ∀ w', I w' → Q .normal a' w') (fun a w h hw => h w hw) _ _ _ _ h0 ?_)
  have := Calm.lex (P := P) (md := .any) hB.1 l 0 (Array.replicate l.toArray.size false) a (by simp) (by simpa using hB.2) h
  simpa using this

/-- Whatever order of the first ones: what stands at their end. -/
def HeadTo (P : Program) (md : Region.Mode) (ops : Array Oper) (I : World → Prop) (n : Nat) (L : Array Bool → Act → Prop) : Nat → Array Bool → Act → Prop
  | 0, listed, a => L listed a
  | f + 1, listed, a => Region.ready md ops listed ≠ [] ∧
    ∀ i ∈ Region.ready md ops listed, i < n ∧ ∃ o v, ops[i]? = some o ∧ ComesTo P ops I o v a ∧ HeadTo P md ops I n L f (listed.setIfInBounds i true) (a.put o.dst v)
theorem HeadTo.any {n g : Nat} {L : Array Bool → Act → Prop} {Q' : Exit → Act → World → Prop} (hL : ∀ listed a w, L listed a → I w → wpAny P md ops Q' g listed a w) :
    ∀ (f : Nat) (listed : Array Bool) (a : Act) (w : World), I w → HeadTo P md ops I n L f listed a → wpAny P md ops Q' (f + g) listed a w
  | 0, listed, a, w, hw, h => by rw [Nat.zero_add]; exact hL _ _ _ h hw
  | f + 1, listed, a, w, hw, h => by
    rw [show f + 1 + g = (f + g) + 1 by omega]
    refine ⟨fun h0 => absurd h0 h.1, fun i hi => ?_⟩
    obtain ⟨_, o, v, h1, h2, h3⟩ := h.2 i hi
    exact h2.op h1 hw (fun w' hw' => HeadTo.any hL f _ _ w' hw' h3)
theorem HeadTo.first {n i : Nat} {oi : Oper} {v : Value} {L : Array Bool → Act → Prop} (hi : ops[i]? = some oi) (hsel : ∀ (j : Nat) (o : Oper) cs b, ops[j]? = some o → o.op ≠ .select cs b)
    (hs : Region.sinkB md ops n = true) (hc : Region.chainB md ops n = true) (hn : n < ops.size) (hin : i < n) (hdone : ∀ listed a, L listed a → ∀ j ∈ Region.ready md ops listed, n ≤ j) :
    ∀ (f : Nat) (listed : Array Bool) (a : Act), HeadInv md ops n listed →
      (∀ j oj, ops[j]? = some oj → j ≠ i → listed.getD j true = false → (∀ e ∈ oj.after, Region.binds md e = true → e.on ≠ i) → oi.apart ops oj = true) →
      i ∈ Region.ready md ops listed → ComesTo P ops I oi v a → HeadTo P md ops I n L f (listed.setIfInBounds i true) (a.put oi.dst v) → HeadTo P md ops I n L (f + 1) listed a := by
  intro f
  induction f with
  | zero =>
    intro listed a inv _ hr hy H
    have hun := (mem_ready.1 hr).1
    refine ⟨fun h => (by rw [h] at hr; cases hr), fun j hj => ?_⟩
    have hjn : j < n := by
      rcases Nat.lt_or_ge j n with h | h
      · exact h
      · exact absurd hj (tail_waits hs hc hn inv _ i rfl hin hun j h)
    refine ⟨hjn, ?_⟩
    by_cases hji : j = i
    · subst hji; exact ⟨oi, v, hi, hy, H⟩
    · have := hdone _ _ H j (ready_mono hj hji)
      omega
  | succ f ih =>
    intro listed a inv hfree hr hy H
    have hun := (mem_ready.1 hr).1
    refine ⟨fun h => (by rw [h] at hr; cases hr), fun j hj => ?_⟩
    have hjn : j < n := by
      rcases Nat.lt_or_ge j n with h | h
      · exact h
      · exact absurd hj (tail_waits hs hc hn inv _ i rfl hin hun j h)
    refine ⟨hjn, ?_⟩
    by_cases hji : j = i
    · subst hji; exact ⟨oi, v, hi, hy, H⟩
    · obtain ⟨_, oj, u, hoj, hyj, Hj⟩ := H.2 j (ready_mono hj hji)
      obtain ⟨hjun, oj', hoj', hall⟩ := mem_ready.1 hj
      obtain rfl : oj' = oj := by rw [hoj] at hoj'; exact (Option.some.inj hoj').symm
      have hnot : ∀ e ∈ oj'.after, Region.binds md e = true → e.on ≠ i := fun e he hb heq => by
        have h1 := hall e he hb
        rw [heq, getD_both hun] at h1
        cases h1
      obtain ⟨h1, h2, h3⟩ := Oper.apart_spec (hfree j oj' hoj hji hjun hnot)
      have hyj' : ComesTo P ops I oj' u a := hyj.same (execOp_put oj' (fun cs b => hsel j oj' cs b hoj) a oi.dst v h1).symm (wanted_put oj' a oi.dst v h1).symm
      have hyi' : ComesTo P ops I oi v (a.put oj'.dst u) := hy.same (execOp_put oi (fun cs b => hsel i oi cs b hi) a oj'.dst u h3) (wanted_put oi a oj'.dst u h3)
      refine ⟨oj', u, hoj, hyj', ih _ _ (inv.set hj hjn) (fun k ok hk hki hun hno => ?_) (ready_mono hr (Ne.symm hji)) hyi' ?_⟩
      · refine hfree k ok hk hki ?_ hno
        by_cases hjk : j = k
        · subst hjk; exact hjun
        · rw [getD_set_ne true hjk] at hun; exact hun
      · rw [Array.setIfInBounds_comm _ _ hji, ← Act.put_comm a v u h2]
        exact Hj
theorem HeadTo.lex {n g : Nat} {Lq : Act → Prop} (hsel : Region.noSelect ops = true) (hs : Region.sinkB md ops n = true) (hc : Region.chainB md ops n = true) (hn : n < ops.size) :
    ∀ (l : List Oper) (k : Nat) (listed : Array Bool) (a : Act), (∀ j, j < l.length → l[j]? = ops[k + j]?) → k + l.length = n → HeadInv md ops n listed →
    Region.lexHead md ops g l.length k listed = true → Calm P ops I Lq l a →
    HeadTo P md ops I n (fun listed' a' => Region.seqB md ops g n listed' = true ∧ Lq a') l.length listed a
  | [], k, listed, a, _, hk, _, hB, h => by
    have : k = n := by simpa using hk
    subst this
    exact ⟨by simpa [Region.lexHead] using hB, h⟩
  | o :: l, k, listed, a, hl, hk, inv, hB, ⟨v, hy, h⟩ => by
    have h0 : ops[k]? = some o := by simpa using (hl 0 (by simp)).symm
    simp only [List.length_cons, Region.lexHead, Bool.and_eq_true] at hB
    obtain ⟨⟨hr, hf⟩, hB'⟩ := hB
    have hkn : k < n := by simp only [List.length_cons] at hk; omega
    have hr' : k ∈ Region.ready md ops listed := by simpa using hr
    exact HeadTo.first h0 (Region.noSelect_spec hsel) hs hc hn hkn (fun listed' a' hL => seqB_ready hL.1) l.length listed a inv (Region.free_spec h0 hf) hr' hy
      (HeadTo.lex hsel hs hc hn l (k + 1) _ _ (fun j hj => by have := hl (j + 1) (by simp; omega); simpa [Nat.add_assoc, Nat.add_comm 1 j] using this) (by simp only [List.length_cons] at hk; omega) (inv.set hr' hkn) hB' h)
/-- A REGION THAT DRAWS, under I: its first n operations are calm, the others stand in one order. -/
theorem wp_calm_tail {id : Nat} {Q : Exit → Act → World → Prop} {a : Act} {w : World} {l : List Oper} (n : Nat) (I : World → Prop) (hm : P.follows .mixedOrders = true) (hB : Region.lexTailB .any l.toArray n = true) (h0 : I w.drew)
    (h : Calm P l.toArray I (fun a' => ∀ w', I w' → wpList P l.toArray Q (l.drop n) a' w') (l.take n) a) : (Code.region id l.toArray true).wp P Q a w := by
  simp only [Region.lexTailB, Bool.and_eq_true, decide_eq_true_eq] at hB
  obtain ⟨⟨⟨⟨hsel, hn⟩, hs⟩, hc⟩, hlex⟩ := hB
  have hn' : n < l.length := by simpa using hn
  have htl : (l.take n).length = n := by simp; omega
  have hdl : (l.drop n).length = l.toArray.size - n := by simp
  have inv0 : HeadInv .any l.toArray n (Array.replicate l.toArray.size false) :=
    ⟨by simp, fun j oj _ hl => (by rw [getD_replicate_false] at hl; cases hl), fun t _ ht => getD_in (by simpa using ht) (getD_replicate_false _ _)⟩
  have H := HeadTo.lex (P := P) (md := .any) (g := l.toArray.size - n) hsel hs hc hn (l.take n) 0 _ a (fun j hj => by
    have hj' : j < n := by rw [htl] at hj; exact hj
    simp [hj']) (by simpa using htl) inv0 (by rw [htl]; exact hlex) h
  refine wp_region_any hm ?_
  have := HeadTo.any (Q' := Q) (g := l.toArray.size - n) (fun listed a' w' hL hw' => by
    have := wpAny_of_seq (P := P) (md := .any) (Q' := Q) (l.drop n) n listed a' w' (fun j => by simp [List.getElem?_drop]) (by rw [hdl]; exact hL.1) (hL.2 w' hw')
    rwa [hdl] at this) _ _ _ _ h0 H
  rw [htl, show n + (l.toArray.size - n) = l.toArray.size by omega] at this
  exact this

theorem calm_nil {Q : Act → Prop} {a : Act} (h : Q a) : Calm P ops I Q [] a := h
/-- An operation whose guard says yes, or that has none. -/
theorem calm_step {Q : Act → Prop} {a : Act} {o : Oper} {rest : List Oper} (hw : Region.wanted o (yielded ops a.tmps) = true) {v : Value} (h1 : ∀ w, I w → CameTo P I v ((execOp a.eval o).run P w))
    (h : ∀ K : Act → Prop, (∀ a, Calm P ops I Q rest a → K a) → K (a.put o.dst v)) : Calm P ops I Q (o :: rest) a := ⟨v, .inl ⟨hw, h1⟩, h _ (fun _ h => h)⟩
/-- An operation whose guard says no. -/
theorem calm_pass {Q : Act → Prop} {a : Act} {o : Oper} {rest : List Oper} (hw : Region.wanted o (yielded ops a.tmps) = false)
    (h : ∀ K : Act → Prop, (∀ a, Calm P ops I Q rest a → K a) → K (a.put o.dst undef)) : Calm P ops I Q (o :: rest) a := ⟨undef, .inr ⟨hw, rfl⟩, h _ (fun _ h => h)⟩
/-- The operations of a region that stands in the order of the text. -/
theorem Calm.list {Q : Exit → Act → World → Prop} {Q0 : Act → Prop} {rest : List Oper} (hQ : ∀ a w, Q0 a → I w → wpList P ops Q rest a w) : ∀ (l : List Oper) (a : Act) (w : World), I w → Calm P ops I Q0 l a → wpList P ops Q (l ++ rest) a w
  | [], a, w, hw, h => hQ a w h hw
  | o :: l, a, w, hw, ⟨v, hy, h⟩ => by
    show (if Region.wanted o (yielded ops a.tmps) = true then Oper.wp P o a w (wpList P ops Q (l ++ rest)) Q ∨ (o.asks P a w ∧ LetsOut Q) else wpList P ops Q (l ++ rest) (a.put o.dst undef) w)
    rcases hy with ⟨h1, h2⟩ | ⟨h1, rfl⟩
    · rw [if_pos h1]
      left
      have h3 := h2 w hw
      unfold Oper.wp
      generalize (execOp a.eval o).run P w = r at h3 ⊢
      cases r with
      | ok n w' =>
        cases n <;> simp only [CameTo] at h3 <;> simp only [Oper.upon]
        case value u => obtain ⟨rfl, h4⟩ := h3; exact Calm.list hQ l _ _ h4 h
        case skip => obtain ⟨rfl, h4⟩ := h3; exact Calm.list hQ l _ _ h4 h
        case enter f args => exact h3.mono fun e w'' ⟨he, hi⟩ => by subst he; exact Calm.list hQ l _ _ hi h
      | halt x w' => simp only [CameTo] at h3
    · rw [if_neg (by simp [h1])]
      exact Calm.list hQ l _ _ hw h
/-- A region that stands in the order of the text, under I: whole, and its first n operations. -/
theorem wp_plain {id : Nat} {Q : Exit → Act → World → Prop} {a : Act} {w : World} {l : List Oper} (I : World → Prop) (h0 : I w)
    (h : Calm P l.toArray I (fun a' => ∀ w', I w' → Q .normal a' w') l a) : (Code.region id l.toArray false).wp P Q a w := by
  refine wp_region_lit ?_
  have := Calm.list (Q := Q) (rest := []) (fun a w hq hw => show Q .normal a w from hq w hw) l a w h0 h
  rwa [List.append_nil] at this
theorem wp_plain_tail {id : Nat} {Q : Exit → Act → World → Prop} {a : Act} {w : World} {l : List Oper} (n : Nat) (I : World → Prop) (h0 : I w)
    (h : Calm P l.toArray I (fun a' => ∀ w', I w' → wpList P l.toArray Q (l.drop n) a' w') (l.take n) a) : (Code.region id l.toArray false).wp P Q a w := by
  refine wp_region_lit ?_
  have := Calm.list (Q := Q) (rest := l.drop n) (fun a w hq hw => hq w hw) (l.take n) a w h0 h
  rwa [List.take_append_drop] at this
end

attribute [go_sem] cameTo_value cameTo_skip cameTo_enter
end Go.Proofs.Ytoffcoegghigoaa
