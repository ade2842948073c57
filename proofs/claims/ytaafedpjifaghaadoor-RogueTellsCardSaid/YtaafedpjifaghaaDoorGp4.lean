import Derived.Test.YtaafedpjifaghaaDoorGp1
import Derived.Test.YtaafedpjifaghaaDoorGp2
import Derived.Test.YtaafedpjifaghaaDoorGp3
import Derived.Still
import Derived.StillTail
import Derived.WalkKit
import Derived.Deep.Cut
import Derived.Deep.CutBlock
import Derived.IntWalk
/- A region that draws its order: where each operation yields one value in every world of which I holds, and leaves I be, the order of the text tells all: calls that make memory, loads of what I knows, guards that say no. Laws over any program. -/
set_option linter.unusedVariables false
set_option linter.unusedSimpArgs false
namespace Go.Proofs.YtaafedpjifaghaaDoor
open Go.RowKit

section
variable {P : Program} {ops : Array Oper} {md : Region.Mode} {I : World → Prop}

/-- The operation came to this value, and I holds. -/
def CameTo (P : Program) (I : World → Prop) (v : Value) : Result Next → Prop
  | .ok (.value u) w' => u = v ∧ I w'
  | .ok .skip w' => v = undef ∧ I w'
  | .ok (.enter f args) w' => Calls P f args w' fun e w'' => e = .returned v ∧ I w''
  | _ => False
theorem cameTo_value (u v : Value) (w' : World) : CameTo P I v (.ok (.value u) w') = (u = v ∧ I w') := rfl
theorem cameTo_skip (v : Value) (w' : World) : CameTo P I v (.ok .skip w') = (v = undef ∧ I w') := rfl
theorem cameTo_enter (v : Value) (f : Nat) (args : Array Value) (w' : World) : CameTo P I v (.ok (.enter f args) w') = Calls P f args w' (fun e w'' => e = .returned v ∧ I w'') := rfl

/-- In every world of I this operation comes to v. -/
def ComesTo (P : Program) (ops : Array Oper) (I : World → Prop) (o : Oper) (v : Value) (a : Act) : Prop :=
  (Region.wanted o (yielded ops a.tmps) = true ∧ ∀ w, I w → CameTo P I v ((execOp a.eval o).run P w)) ∨ (Region.wanted o (yielded ops a.tmps) = false ∧ v = undef)
theorem ComesTo.same {o : Oper} {v : Value} {a a' : Act} (h : ComesTo P ops I o v a) (he : execOp a'.eval o = execOp a.eval o) (hw : Region.wanted o (yielded ops a'.tmps) = Region.wanted o (yielded ops a.tmps)) : ComesTo P ops I o v a' := by
  unfold ComesTo at *
  rw [he, hw]
  exact h
theorem ComesTo.op {i : Nat} {o : Oper} {v : Value} {a : Act} {w : World} {K : Act → World → Prop} {Q : Exit → Act → World → Prop} (hi : ops[i]? = some o) (h : ComesTo P ops I o v a) (hw : I w) (hK : ∀ w, I w → K (a.put o.dst v) w) : wpOp P ops Q i K a w := by
  unfold wpOp
  simp only [hi]
  rcases h with ⟨h1, h2⟩ | ⟨h1, rfl⟩
  · rw [if_pos h1]
    left
    have h3 := h2 w hw
    unfold Oper.wp
    generalize (execOp a.eval o).run P w = r at h3 ⊢
    cases r with
    | ok n w' =>
      cases n <;> simp only [CameTo] at h3 <;> simp only [Oper.upon]
      case value u => obtain ⟨rfl, h4⟩ := h3; exact hK _ h4
      case skip => obtain ⟨rfl, h4⟩ := h3; exact hK _ h4
      case enter f args => exact h3.mono fun e w'' ⟨he, hi⟩ => by subst he; exact hK _ hi
    | halt x w' => simp only [CameTo] at h3
  · rw [if_neg (by simp [h1])]
    exact hK w hw

/-- Whatever order: the end. -/
def AnyTo (P : Program) (md : Region.Mode) (ops : Array Oper) (I : World → Prop) (Q : Act → Prop) : Nat → Array Bool → Act → Prop
  | 0, listed, a => Region.ready md ops listed = [] ∧ Q a
  | n + 1, listed, a => (Region.ready md ops listed = [] → Q a) ∧
    ∀ i ∈ Region.ready md ops listed, ∃ o v, ops[i]? = some o ∧ ComesTo P ops I o v a ∧ AnyTo P md ops I Q n (listed.setIfInBounds i true) (a.put o.dst v)
theorem AnyTo.any {Q : Act → Prop} {Q' : Exit → Act → World → Prop} (hQ : ∀ a w, Q a → I w → Q' .normal a w) : ∀ (n : Nat) (listed : Array Bool) (a : Act) (w : World), I w → AnyTo P md ops I Q n listed a → wpAny P md ops Q' n listed a w
  | 0, _, _, _, hw, h => ⟨h.1, hQ _ _ h.2 hw⟩
  | n + 1, _, _, _, hw, h => ⟨fun h0 => hQ _ _ (h.1 h0) hw, fun i hi => by
      obtain ⟨o, v, h1, h2, h3⟩ := h.2 i hi
      exact h2.op h1 hw (fun w' hw' => AnyTo.any hQ n _ _ w' hw' h3)⟩

/-- What may come first may be taken first. -/
theorem AnyTo.first {Q : Act → Prop} {i : Nat} {oi : Oper} {v : Value} (hi : ops[i]? = some oi) (hsel : ∀ (j : Nat) (o : Oper) cs b, ops[j]? = some o → o.op ≠ .select cs b) : ∀ (n : Nat) (listed : Array Bool) (a : Act),
    (∀ j oj, ops[j]? = some oj → j ≠ i → listed.getD j true = false → (∀ e ∈ oj.after, Region.binds md e = true → e.on ≠ i) → oi.apart ops oj = true) →
    i ∈ Region.ready md ops listed → ComesTo P ops I oi v a → AnyTo P md ops I Q n (listed.setIfInBounds i true) (a.put oi.dst v) → AnyTo P md ops I Q (n + 1) listed a := by
  intro n
  induction n with
  | zero =>
    intro listed a _ hr hy H
    refine ⟨fun h => (by rw [h] at hr; cases hr), fun j hj => ?_⟩
    by_cases hji : j = i
    · subst hji; exact ⟨oi, v, hi, hy, H⟩
    · have := ready_mono hj hji
      rw [H.1] at this
      cases this
  | succ n ih =>
    intro listed a hfree hr hy H
    refine ⟨fun h => (by rw [h] at hr; cases hr), fun j hj => ?_⟩
    by_cases hji : j = i
    · subst hji; exact ⟨oi, v, hi, hy, H⟩
    · obtain ⟨oj, u, hoj, hyj, Hj⟩ := H.2 j (ready_mono hj hji)
      obtain ⟨hjun, oj', hoj', hall⟩ := mem_ready.1 hj
      obtain rfl : oj' = oj := by rw [hoj] at hoj'; exact (Option.some.inj hoj').symm
      have hnot : ∀ e ∈ oj'.after, Region.binds md e = true → e.on ≠ i := fun e he hb heq => by
        have h1 := hall e he hb
        have h0 := (mem_ready.1 hr).1
        rw [heq] at h1
        rcases Nat.lt_or_ge i listed.size with h' | h'
        · simp [h'] at h0 h1; rw [h0] at h1; cases h1
        · simp [Array.getElem?_eq_none h'] at h1
      obtain ⟨h1, h2, h3⟩ := Oper.apart_spec (hfree j oj' hoj hji hjun hnot)
      have hyj' : ComesTo P ops I oj' u a := hyj.same (execOp_put oj' (fun cs b => hsel j oj' cs b hoj) a oi.dst v h1).symm (wanted_put oj' a oi.dst v h1).symm
      have hyi' : ComesTo P ops I oi v (a.put oj'.dst u) := hy.same (execOp_put oi (fun cs b => hsel i oi cs b hi) a oj'.dst u h3) (wanted_put oi a oj'.dst u h3)
      refine ⟨oj', u, hoj, hyj', ih _ _ (fun k ok hk hki hun hno => ?_) (ready_mono hr (Ne.symm hji)) hyi' ?_⟩
      · refine hfree k ok hk hki ?_ hno
        by_cases hjk : j = k
        · subst hjk; exact hjun
        · rw [getD_set_ne true hjk] at hun; exact hun
      · rw [Array.setIfInBounds_comm _ _ hji, ← Act.put_comm a v u h2]
        exact Hj

/-- The operations in the order of the text. -/
def Calm (P : Program) (ops : Array Oper) (I : World → Prop) (Q : Act → Prop) : List Oper → Act → Prop
  | [], a => Q a
  | o :: rest, a => ∃ v, ComesTo P ops I o v a ∧ Calm P ops I Q rest (a.put o.dst v)
theorem Calm.lex {Q : Act → Prop} (hs : Region.noSelect ops = true) : ∀ (l : List Oper) (k : Nat) (listed : Array Bool) (a : Act), (∀ j, l[j]? = ops[k + j]?) →
    Region.lexFrom md ops l.length k listed = true → Calm P ops I Q l a → AnyTo P md ops I Q l.length listed a
  | [], _, _, _, _, hB, h => ⟨by simpa [Region.lexFrom] using hB, h⟩
  | o :: l, k, listed, a, hl, hB, ⟨v, hy, h⟩ => by
    have h0 : ops[k]? = some o := by simpa using (hl 0).symm
    simp only [List.length_cons, Region.lexFrom, Bool.and_eq_true] at hB
    obtain ⟨⟨hr, hf⟩, hB'⟩ := hB
    exact AnyTo.first h0 (Region.noSelect_spec hs) l.length listed a (Region.free_spec h0 hf) (by simpa using hr) hy
      (Calm.lex hs l (k + 1) _ _ (fun j => by have := hl (j + 1); simpa [Nat.add_assoc, Nat.add_comm 1 j] using this) hB' h)

/-- A REGION THAT DRAWS, under I. -/
theorem wp_calm {id : Nat} {Q : Exit → Act → World → Prop} {a : Act} {w : World} {l : List Oper} (I : World → Prop) (hm : P.follows .mixedOrders = true) (hB : Region.lexB .any l.toArray = true) (h0 : I w.drew)
    (h : Calm P l.toArray I (fun a' => ∀ w', I w' → Q .normal a' w') l a) : (Code.region id l.toArray true).wp P Q a w := by
  simp only [Region.lexB, Bool.and_eq_true] at hB
  refine wp_region_any hm (AnyTo.any (I := I) (Q := fun a' => ∀ w', I w' → Q .normal a' w') (fun a w h hw => h w hw) _ _ _ _ h0 ?_)
  have := Calm.lex (P := P) (md := .any) hB.1 l 0 (Array.replicate l.toArray.size false) a (by simp) (by simpa using hB.2) h
  simpa using this

/-- Whatever order of the first ones: what stands at their end. -/
def HeadTo (P : Program) (md : Region.Mode) (ops : Array Oper) (I : World → Prop) (n : Nat) (L : Array Bool → Act → Prop) : Nat → Array Bool → Act → Prop
  | 0, listed, a => L listed a
  | f + 1, listed, a => Region.ready md ops listed ≠ [] ∧
    ∀ i ∈ Region.ready md ops listed, i < n ∧ ∃ o v, ops[i]? = some o ∧ ComesTo P ops I o v a ∧ HeadTo P md ops I n L f (listed.setIfInBounds i true) (a.put o.dst v)
theorem HeadTo.any {n g : Nat} {L : Array Bool → Act → Prop} {Q' : Exit → Act → World → Prop} (hL : ∀ listed a w, L listed a → I w → wpAny P md ops Q' g listed a w) :
    ∀ (f : Nat) (listed : Array Bool) (a : Act) (w : World), I w → HeadTo P md ops I n L f listed a → wpAny P md ops Q' (f + g) listed a w
  | 0, listed, a, w, hw, h => by rw [Nat.zero_add]; exact hL _ _ _ h hw
  | f + 1, listed, a, w, hw, h => by
    rw [show f + 1 + g = (f + g) + 1 by omega]
    refine ⟨fun h0 => absurd h0 h.1, fun i hi => ?_⟩
    obtain ⟨_, o, v, h1, h2, h3⟩ := h.2 i hi
    exact h2.op h1 hw (fun w' hw' => HeadTo.any hL f _ _ w' hw' h3)
theorem HeadTo.first {n i : Nat} {oi : Oper} {v : Value} {L : Array Bool → Act → Prop} (hi : ops[i]? = some oi) (hsel : ∀ (j : Nat) (o : Oper) cs b, ops[j]? = some o → o.op ≠ .select cs b)
    (hs : Region.sinkB md ops n = true) (hc : Region.chainB md ops n = true) (hn : n < ops.size) (hin : i < n) (hdone : ∀ listed a, L listed a → ∀ j ∈ Region.ready md ops listed, n ≤ j) :
    ∀ (f : Nat) (listed : Array Bool) (a : Act), HeadInv md ops n listed →
      (∀ j oj, ops[j]? = some oj → j ≠ i → listed.getD j true = false → (∀ e ∈ oj.after, Region.binds md e = true → e.on ≠ i) → oi.apart ops oj = true) →
      i ∈ Region.ready md ops listed → ComesTo P ops I oi v a → HeadTo P md ops I n L f (listed.setIfInBounds i true) (a.put oi.dst v) → HeadTo P md ops I n L (f + 1) listed a := by
  intro f
  induction f with
  | zero =>
    intro listed a inv _ hr hy H
    have hun := (mem_ready.1 hr).1
    refine ⟨fun h => (by rw [h] at hr; cases hr), fun j hj => ?_⟩
    have hjn : j < n := by
      rcases Nat.lt_or_ge j n with h | h
      · exact h
      · exact absurd hj (tail_waits hs hc hn inv _ i rfl hin hun j h)
    refine ⟨hjn, ?_⟩
    by_cases hji : j = i
    · subst hji; exact ⟨oi, v, hi, hy, H⟩
    · have := hdone _ _ H j (ready_mono hj hji)
      omega
  | succ f ih =>
    intro listed a inv hfree hr hy H
    have hun := (mem_ready.1 hr).1
    refine ⟨fun h => (by rw [h] at hr; cases hr), fun j hj => ?_⟩
    have hjn : j < n := by
      rcases Nat.lt_or_ge j n with h | h
      · exact h
      · exact absurd hj (tail_waits hs hc hn inv _ i rfl hin hun j h)
    refine ⟨hjn, ?_⟩
    by_cases hji : j = i
    · subst hji; exact ⟨oi, v, hi, hy, H⟩
    · obtain ⟨_, oj, u, hoj, hyj, Hj⟩ := H.2 j (ready_mono hj hji)
      obtain ⟨hjun, oj', hoj', hall⟩ := mem_ready.1 hj
      obtain rfl : oj' = oj := by rw [hoj] at hoj'; exact (Option.some.inj hoj').symm
      have hnot : ∀ e ∈ oj'.after, Region.binds md e = true → e.on ≠ i := fun e he hb heq => by
        have h1 := hall e he hb
        rw [heq, getD_both hun] at h1
        cases h1
      obtain ⟨h1, h2, h3⟩ := Oper.apart_spec (hfree j oj' hoj hji hjun hnot)
      have hyj' : ComesTo P ops I oj' u a := hyj.same (execOp_put oj' (fun cs b => hsel j oj' cs b hoj) a oi.dst v h1).symm (wanted_put oj' a oi.dst v h1).symm
      have hyi' : ComesTo P ops I oi v (a.put oj'.dst u) := hy.same (execOp_put oi (fun cs b => hsel i oi cs b hi) a oj'.dst u h3) (wanted_put oi a oj'.dst u h3)
      refine ⟨oj', u, hoj, hyj', ih _ _ (inv.set hj hjn) (fun k ok hk hki hun hno => ?_) (ready_mono hr (Ne.symm hji)) hyi' ?_⟩
      · refine hfree k ok hk hki ?_ hno
        by_cases hjk : j = k
        · subst hjk; exact hjun
        · rw [getD_set_ne true hjk] at hun; exact hun
      · rw [Array.setIfInBounds_comm _ _ hji, ← Act.put_comm a v u h2]
        exact Hj
theorem HeadTo.lex {n g : Nat} {Lq : Act → Prop} (hsel : Region.noSelect ops = true) (hs : Region.sinkB md ops n = true) (hc : Region.chainB md ops n = true) (hn : n < ops.size) :
    ∀ (l : List Oper) (k : Nat) (listed : Array Bool) (a : Act), (∀ j, j < l.length → l[j]? = ops[k + j]?) → k + l.length = n → HeadInv md ops n listed →
    Region.lexHead md ops g l.length k listed = true → Calm P ops I Lq l a →
    HeadTo P md ops I n (fun listed' a' => Region.seqB md ops g n listed' = true ∧ Lq a') l.length listed a
  | [], k, listed, a, _, hk, _, hB, h => by
    have : k = n := by simpa using hk
    subst this
    exact ⟨by simpa [Region.lexHead] using hB, h⟩
  | o :: l, k, listed, a, hl, hk, inv, hB, ⟨v, hy, h⟩ => by
    have h0 : ops[k]? = some o := by simpa using (hl 0 (by simp)).symm
    simp only [List.length_cons, Region.lexHead, Bool.and_eq_true] at hB
    obtain ⟨⟨hr, hf⟩, hB'⟩ := hB
    have hkn : k < n := by simp only [List.length_cons] at hk; omega
    have hr' : k ∈ Region.ready md ops listed := by simpa using hr
    exact HeadTo.first h0 (Region.noSelect_spec hsel) hs hc hn hkn (fun listed' a' hL => seqB_ready hL.1) l.length listed a inv (Region.free_spec h0 hf) hr' hy
      (HeadTo.lex hsel hs hc hn l (k + 1) _ _ (fun j hj => by have := hl (j + 1) (by simp; omega); simpa [Nat.add_assoc, Nat.add_comm 1 j] using this) (by simp only [List.length_cons] at hk; omega) (inv.set hr' hkn) hB' h)
/-- A REGION THAT DRAWS, under I: its first n operations are calm, the others stand in one order. -/
theorem wp_calm_tail {id : Nat} {Q : Exit → Act → World → Prop} {a : Act} {w : World} {l : List Oper} (n : Nat) (I : World → Prop) (hm : P.follows .mixedOrders = true) (hB : Region.lexTailB .any l.toArray n = true) (h0 : I w.drew)
    (h : Calm P l.toArray I (fun a' => ∀ w', I w' → wpList P l.toArray Q (l.drop n) a' w') (l.take n) a) : (Code.region id l.toArray true).wp P Q a w := by
  simp only [Region.lexTailB, Bool.and_eq_true, decide_eq_true_eq] at hB
  obtain ⟨⟨⟨⟨hsel, hn⟩, hs⟩, hc⟩, hlex⟩ := hB
  have hn' : n < l.length := by simpa using hn
  have htl : (l.take n).length = n := by simp; omega
  have hdl : (l.drop n).length = l.toArray.size - n := by simp
  have inv0 : HeadInv .any l.toArray n (Array.replicate l.toArray.size false) :=
    ⟨by simp, fun j oj _ hl => (by rw [getD_replicate_false] at hl; cases hl), fun t _ ht => getD_in (by simpa using ht) (getD_replicate_false _ _)⟩
  have H := HeadTo.lex (P := P) (md := .any) (g := l.toArray.size - n) hsel hs hc hn (l.take n) 0 _ a (fun j hj => by
    have hj' : j < n := by rw [htl] at hj; exact hj
    simp [hj']) (by simpa using htl) inv0 (by rw [htl]; exact hlex) h
  refine wp_region_any hm ?_
  have := HeadTo.any (Q' := Q) (g := l.toArray.size - n) (fun listed a' w' hL hw' => by
    have := wpAny_of_seq (P := P) (md := .any) (Q' := Q) (l.drop n) n listed a' w' (fun j => by simp [List.getElem?_drop]) (by rw [hdl]; exact hL.1) (hL.2 w' hw')
    rwa [hdl] at this) _ _ _ _ h0 H
  rw [htl, show n + (l.toArray.size - n) = l.toArray.size by omega] at this
  exact this

theorem calm_nil {Q : Act → Prop} {a : Act} (h : Q a) : Calm P ops I Q [] a := h
/-- An operation whose guard says yes, or that has none. -/
theorem calm_step {Q : Act → Prop} {a : Act} {o : Oper} {rest : List Oper} (hw : Region.wanted o (yielded ops a.tmps) = true) {v : Value} (h1 : ∀ w, I w → CameTo P I v ((execOp a.eval o).run P w))
    (h : ∀ K : Act → Prop, (∀ a, Calm P ops I Q rest a → K a) → K (a.put o.dst v)) : Calm P ops I Q (o :: rest) a := ⟨v, .inl ⟨hw, h1⟩, h _ (fun _ h => h)⟩
/-- An operation whose guard says no. -/
theorem calm_pass {Q : Act → Prop} {a : Act} {o : Oper} {rest : List Oper} (hw : Region.wanted o (yielded ops a.tmps) = false)
    (h : ∀ K : Act → Prop, (∀ a, Calm P ops I Q rest a → K a) → K (a.put o.dst undef)) : Calm P ops I Q (o :: rest) a := ⟨undef, .inr ⟨hw, rfl⟩, h _ (fun _ h => h)⟩
/-- The operations of a region that stands in the order of the text. -/
theorem Calm.list {Q : Exit → Act → World → Prop} {Q0 : Act → Prop} {rest : List Oper} (hQ : ∀ a w, Q0 a → I w → wpList P ops Q rest a w) : ∀ (l : List Oper) (a : Act) (w : World), I w → Calm P ops I Q0 l a → wpList P ops Q (l ++ rest) a w
  | [], a, w, hw, h => hQ a w h hw
  | o :: l, a, w, hw, ⟨v, hy, h⟩ => by
    show (if Region.wanted o (yielded ops a.tmps) = true then Oper.wp P o a w (wpList P ops Q (l ++ rest)) Q ∨ (o.asks P a w ∧ LetsOut Q) else wpList P ops Q (l ++ rest) (a.put o.dst undef) w)
    rcases hy with ⟨h1, h2⟩ | ⟨h1, rfl⟩
    · rw [if_pos h1]
      left
      have h3 := h2 w hw
      unfold Oper.wp
      generalize (execOp a.eval o).run P w = r at h3 ⊢
      cases r with
      | ok n w' =>
        cases n <;> simp only [CameTo] at h3 <;> simp only [Oper.upon]
        case value u => obtain ⟨rfl, h4⟩ := h3; exact Calm.list hQ l _ _ h4 h
        case skip => obtain ⟨rfl, h4⟩ := h3; exact Calm.list hQ l _ _ h4 h
        case enter f args => exact h3.mono fun e w'' ⟨he, hi⟩ => by subst he; exact Calm.list hQ l _ _ hi h
      | halt x w' => simp only [CameTo] at h3
    · rw [if_neg (by simp [h1])]
      exact Calm.list hQ l _ _ hw h
/-- A region that stands in the order of the text, under I: whole, and its first n operations. -/
theorem wp_plain {id : Nat} {Q : Exit → Act → World → Prop} {a : Act} {w : World} {l : List Oper} (I : World → Prop) (h0 : I w)
    (h : Calm P l.toArray I (fun a' => ∀ w', I w' → Q .normal a' w') l a) : (Code.region id l.toArray false).wp P Q a w := by
  refine wp_region_lit ?_
  have := Calm.list (Q := Q) (rest := []) (fun a w hq hw => show Q .normal a w from hq w hw) l a w h0 h
  rwa [List.append_nil] at this
theorem wp_plain_tail {id : Nat} {Q : Exit → Act → World → Prop} {a : Act} {w : World} {l : List Oper} (n : Nat) (I : World → Prop) (h0 : I w)
    (h : Calm P l.toArray I (fun a' => ∀ w', I w' → wpList P l.toArray Q (l.drop n) a' w') (l.take n) a) : (Code.region id l.toArray false).wp P Q a w := by
  refine wp_region_lit ?_
  have := Calm.list (Q := Q) (rest := l.drop n) (fun a w hq hw => hq w hw) (l.take n) a w h0 h
  rwa [List.take_append_drop] at this
end

attribute [go_sem] cameTo_value cameTo_skip cameTo_enter
end Go.Proofs.YtaafedpjifaghaaDoor

/- What a call returned, read as a number or a bool. Plain laws. -/
set_option linter.unusedVariables false
set_option linter.unusedSimpArgs false
namespace Go.Proofs.YtaafedpjifaghaaDoor
open Go.RowKit

theorem ret_bool {a b : Bool} (h : a = b) : Ending.returned (.bool a) = .returned (.bool b) := by rw [h]
theorem ret_int {k : IntKind} {a b : Int} (h : a = b) : Ending.returned (.int k a) = .returned (.int k b) := by rw [h]
theorem ret_boolI {a b : Bool} (h : a = true ↔ b = true) : Ending.returned (.bool a) = .returned (.bool b) := by rw [Bool.eq_iff_iff.2 h]

end Go.Proofs.YtaafedpjifaghaaDoor

/- The walks of the pen: word, Number, Signed, Text, Fixed, Bytes. Condition: what is written is of moderate size. -/
set_option linter.unusedVariables false
set_option linter.unusedSimpArgs false
namespace Go.Proofs.YtaafedpjifaghaaDoor
open Go.RowKit

theorem or_more (c : Nat) : bits BinOp.or IntKind.u8 ((c : Int) % 256) 128 = ((c % 128 + 128 : Nat) : Int) := by
  have key : ∀ r : Fin 256, bits BinOp.or IntKind.u8 ((r.val : Nat) : Int) 128 = ((r.val % 128 + 128 : Nat) : Int) := by decide +kernel
  have := key ⟨c % 256, Nat.mod_lt _ (by omega)⟩
  simp only at this
  rw [show ((c : Int) % 256) = ((c % 256 : Nat) : Int) by omega, this]
  omega

/-- What is appended of bytes that can be read. -/
theorem BytesRO.news {S : Nat → Prop} {w w' : World} {ad : Option Addr} {n cap : Nat} {bs : List UInt8} (hv : BytesRO S w (.slice ad n cap) bs) (hk : Kept S w w') :
    n = bs.length ∧ (ad = none → n = 0) ∧ ∀ a, ad = some a → ∀ j u, (bvs bs)[j]? = some u → w'.cell? (a.add j) = some u := by
  obtain ⟨ad', cap', h, _, h2⟩ := hv
  simp only [Value.slice.injEq] at h
  obtain ⟨rfl, rfl, rfl⟩ := h
  refine ⟨rfl, fun h => ?_, fun a ha j u hu => ?_⟩
  · by_cases h0 : bs = []
    · subst h0; rfl
    · obtain ⟨b, o, e, _⟩ := h2 h0
      rw [h] at e
      cases e
  · have hj : j < bs.length := by have := (List.getElem?_eq_some_iff.1 hu).1; rwa [length_bvs] at this
    obtain ⟨b, o, e, h3, h4, h5⟩ := h2 (by intro h; subst h; simp at hj)
    rw [ha] at e
    cases e
    rw [Addr.add_mid, World.cell?_of_block (w := w) (hk.block b h3 h4), h5 j hj, ← hu]
    simp [bvs, hj]
/-- Bytes in a block that the call doesn't touch. -/
theorem ro_obj {w : World} {S S2 : Nat → Prop} {g n : Nat} {bs : List UInt8} {t : TypeId} {f : Nat × Nat} (h : (ObjAt g (.cells (bvs bs).toArray t f)).on w S2) (hd : ∀ k, S2 k → ¬ S k) (hn : bs.length = n) : BytesRO S w (.slice (some ⟨g, 0, none⟩) n n) bs :=
  ⟨_, n, by rw [hn], by omega, fun _ => ⟨g, 0, rfl, blk_lt h.1, hd g ((h.2 g).2 rfl), fun i hi => by have h1 := h.1; rw [Nat.zero_add, cell_blk h1]; simp [bvs, hi]⟩⟩
theorem ro_row {w : World} {S S2 : Nat → Prop} {v : Value} {n : Nat} {bs : List UInt8} (h : (Row 5 1 v n (bvs bs)).on w S2) (hd : ∀ k, S2 k → ¬ S k) : BytesRO S w v bs := by
  obtain ⟨h1, h2⟩ := h
  have hn : n = bs.length := by have := h1.1; rw [length_bvs] at this; omega
  subst hn
  rcases own_shape h1 with ⟨rfl, h0⟩ | ⟨g, cap, rfl, hc, hg⟩
  · obtain rfl : bs = [] := List.eq_nil_of_length_eq_zero h0
    exact ⟨none, 0, rfl, Nat.le_refl _, fun h => absurd rfl h⟩
  · exact ⟨_, cap, rfl, hc, fun _ => ⟨g, 0, rfl, hg, hd g ((h2 g).2 (by simp [Value.ownBlock])), fun i hi => by rw [Nat.zero_add]; exact own_cell h1 (by simp [bvs, hi])⟩⟩
theorem own_ro {w : World} {v : Value} {n : Nat} {l : List UInt8} (h : w.ownsRow 0 5 1 v n (bvs l)) : BytesRO (fun _ => False) w v l ∧ n = l.length := by
  have hn : n = l.length := by have := h.1; rw [length_bvs] at this; omega
  refine ⟨?_, hn⟩
  rcases own_shape h with ⟨rfl, h0⟩ | ⟨g, cap, rfl, hc, hg⟩
  · obtain rfl : l = [] := List.eq_nil_of_length_eq_zero (by omega)
    exact ⟨none, 0, rfl, Nat.le_refl _, fun h => absurd rfl h⟩
  · subst hn
    exact ⟨_, cap, rfl, hc, fun _ => ⟨g, 0, rfl, hg, id, fun i hi => by rw [Nat.zero_add]; exact own_cell h (by simp [bvs, hi])⟩⟩

set_option maxRecDepth 100000 in
theorem bytes_clone {v : Value} {bs : List UInt8} {w : World} (hv : BytesRO (fun _ => False) w v bs) (hl : bs.length ≤ 140000000000000) :
    Calls Tryd.prog 63 #[v] w fun e w' => ∃ v', e = .returned v' ∧ St (fun _ => False) w w' [Row 5 1 v' bs.length (bvs bs)] := by
  obtain ⟨ad, cap, rfl, hcap, hcell⟩ := id hv
  cases ad with
  | none =>
    have h0 : bs = [] := by
      by_cases h : bs = []
      · exact h
      · obtain ⟨b, o, e, _⟩ := hcell h
        cases e
    subst h0
    have hq := fun w => Lib.run_eql_slice_nil (P := Tryd.prog) w 38 5 none 0 cap 0 0 Tryd.underlying38
    go_enter Tryd.func63, Tryd.ntmps63
    go_wp2
    go_ret
    exact ⟨_, rfl, (St.nil _ w).row_nil 5 1⟩
  | some a =>
    have hnew : St (fun _ => False) w (w.alloc (.cells #[] 5)) [Row 5 1 (.slice (some ⟨w.heap.size, 0, none⟩) 0 0) 0 []] := by
      refine ⟨(Kept.refl _ _).alloc _, fun k => k = w.heap.size, ⟨?_, fun k => by simp [Value.ownBlock, eq_comm]⟩, fun k h => .inr (by omega), trivial⟩
      exact World.ownsRow_lit w #[] 0 (Nat.zero_le _) (by simp [maxLen]) rfl
    obtain ⟨_, hA, hnews⟩ := BytesRO.news hv hnew.kept
    have hlen : (bvs bs).length = bs.length * 1 := by rw [length_bvs, Nat.mul_one]
    have hb : (0 + bs.length) * 1 ≤ 140737488355328 := by omega
    clear hcell
    have hq := fun w => Lib.run_eql_slice_nil (P := Tryd.prog) w 38 5 (some a) bs.length cap 0 0 Tryd.underlying38
    go_enter Tryd.func63, Tryd.ntmps63
    go_wp2_with (at_builtin; go_must (refine St.list_add hnew 0 rfl rfl (.tmp 5) (.tmp 6) 38 rfl Tryd.underlying38 Tryd.info5 (by decide) rfl (bvs bs) rfl hlen hA hnews one_bvs hb ?_; intro v' w1 H1 hz))
    go_ret
    exact ⟨v', rfl, by simpa using H1⟩

end Go.Proofs.YtaafedpjifaghaaDoor

/- The walks of the reference's store that a meter needs: Spend, a crash with nothing waiting. Conditions: the blocks lie as the makers lay them. -/
set_option linter.unusedVariables false
set_option linter.unusedSimpArgs false
namespace Go.Proofs.YtaafedpjifaghaaDoor
open Go.RowKit

/-! The reference. -/
abbrev RefB (b : Nat) (x y : Value) (c : Int) (z : Value) : SP := Blk b #[x, y, .int .i64 c, z] 67

end Go.Proofs.YtaafedpjifaghaaDoor

/- The walks of the reference's store: Spend, Write, Read. Conditions: its blocks lie as its maker lays them. -/
set_option linter.unusedVariables false
set_option linter.unusedSimpArgs false
namespace Go.Proofs.YtaafedpjifaghaaDoor
open Go.RowKit

def refWait (x : Int × List UInt8) : List Value := [.int .i64 x.1, textV x.2]
def refWaits (l : List (Int × List UInt8)) : List Value := (l.map refWait).flatten
theorem refWaits_snoc (l : List (Int × List UInt8)) (x : Int × List UInt8) : refWaits (l ++ [x]) = refWaits l ++ refWait x := by simp [refWaits]
def refParts (b : Nat) (vl vw vc : Value) (m : StM) : List SP :=
  [Blk b #[vl, vw, .int .i64 m.calls, vc] 67, Row 9 1 vl m.last.length (texts m.last), Row 103 2 vw m.waits.length (refWaits m.waits), Row 3 1 vc m.reads.length (intCells m.reads)]
def RefAt (b : Nat) (m : StM) : SP := SP.ex fun x : Value × Value × Value => SP.all (refParts b x.1 x.2.1 x.2.2 m)
theorem RefAt.out {b : Nat} {m : StM} {w : World} {l : List SP} {S : Nat → Prop} (H : Sep w (RefAt b m :: l) S) : ∃ vl vw vc, Sep w (refParts b vl vw vc m ++ l) S := by
  obtain ⟨⟨vl, vw, vc⟩, H⟩ := Sep.ex_iff.1 H
  exact ⟨vl, vw, vc, Sep.all_iff.1 H⟩
theorem RefAt.open {b : Nat} {m : StM} {w0 w : World} {l : List SP} {S : Nat → Prop} (H : St S w0 w (RefAt b m :: l)) : ∃ vl vw vc, St S w0 w (refParts b vl vw vc m ++ l) := by
  obtain ⟨⟨vl, vw, vc⟩, H⟩ := St.ex_iff.1 H
  exact ⟨vl, vw, vc, St.all_iff.1 H⟩
theorem RefAt.mk {b : Nat} {m : StM} {w0 w : World} {l : List SP} {S : Nat → Prop} {vl vw vc : Value} (H : St S w0 w (refParts b vl vw vc m ++ l)) : St S w0 w (RefAt b m :: l) :=
  St.ex_iff.2 ⟨(vl, vw, vc), St.all_iff.2 H⟩

theorem ref_made (n : Nat) (hn : n ≤ 4096) (w : World) : Calls Tryd.prog 9 #[.int .i64 n] w fun e w' => ∃ b, e = .returned (.pointer (some ⟨b, 0, none⟩)) ∧ St (fun _ => False) w w' [RefAt b (newStore n)] := by
  refine (ref_new n hn w).mono ?_
  rintro e w' ⟨b, vl, vc, rfl, H⟩
  refine ⟨b, rfl, RefAt.mk (l := []) (vl := vl) (vw := .slice none 0 0) (vc := vc) ?_⟩
  have H2 := (H.row_nil 103 2).pick [1, 2, 0, 3]
  simpa [refParts, newStore, texts, intCells, refWaits, textV, nil128] using H2

theorem Tryd.info103 : (Tryd.prog.info? 103).map (fun i => (i.zero, i.size, i.bytes)) = some (some (.agg #[.int .i64 0, .string ⟨#[]⟩]), 2, 24) := by kernel_rfl

theorem refWaits_len (l : List (Int × List UInt8)) : (refWaits l).length = l.length * 2 := flat_len (k := 2) (by
  intro x hx
  obtain ⟨y, _, rfl⟩ := List.mem_map.1 hx
  rfl) |>.trans (by simp)
theorem refWaits_at {l : List (Int × List UInt8)} {k : Nat} {x : Int × List UInt8} (h : l[k]? = some x) : (refWaits l)[k * 2]? = some (.int .i64 x.1) ∧ (refWaits l)[k * 2 + 1]? = some (textV x.2) := by
  have hf : ∀ y ∈ l.map refWait, y.length = 2 := by
    intro x hx
    obtain ⟨y, _, rfl⟩ := List.mem_map.1 hx
    rfl
  have hk : (l.map refWait)[k]? = some (refWait x) := by simp [h]
  exact ⟨(flat_get hf hk (j := 0) (by omega)).trans rfl, (flat_get hf hk (j := 1) (by omega)).trans rfl⟩

end Go.Proofs.YtaafedpjifaghaaDoor

/- The walks of the reference's store: Sync, Crash. Conditions: its blocks lie as its maker lays them. -/
set_option linter.unusedVariables false
set_option linter.unusedSimpArgs false
namespace Go.Proofs.YtaafedpjifaghaaDoor
open Go.RowKit

theorem texts_at {l : List (List UInt8)} {k : Nat} {x : List UInt8} (h : l[k]? = some x) : (texts l)[k]? = some (textV x) := by simp [texts, h]
theorem texts_set (l : List (List UInt8)) (k : Nat) (x : List UInt8) : (texts l).set k (textV x) = texts (l.set k x) := by simp [texts, List.map_set]
theorem take_set_len {α : Type} (l : List α) (k : Nat) : (l.take k).length ≤ l.length := by rw [List.length_take]; omega

theorem St.textSet {S : Nat → Prop} {w0 w : World} {l : List SP} (H : St S w0 w l) (i : Nat) {g n c : Nat} {L : List (List UInt8)} (hi : l[i]? = some (Row 9 1 (.slice (some ⟨g, 0, none⟩) n c) n (texts L))) (p : Nat) (X : List UInt8) {v : Value} (hv : textV X = v) :
    St S w0 (w.setCell ⟨g, p, none⟩ v) (l.set i (Row 9 1 (.slice (some ⟨g, 0, none⟩) n c) n (texts (L.set p X)))) := by
  have h := H.rowSet i hi p (textV X)
  rw [texts_set, hv] at h
  exact h
theorem text_cut (y z : List UInt8) (n : Nat) (hz : z.length = 128) : textV (y.take n ++ z.drop n) = .string ((⟨y.toArray⟩ : ByteArray).extract 0 n ++ (⟨z.toArray⟩ : ByteArray).extract n 128) := by
  unfold textV
  congr 1
  apply ByteArray.ext
  rw [ByteArray.data_append, ByteArray.data_extract, ByteArray.data_extract]
  apply Array.ext'
  rw [Array.toList_append, Array.toList_extract, Array.toList_extract]
  simp only [List.extract_eq_take_drop, Nat.sub_zero, List.drop_zero]
  rw [List.take_of_length_le (l := z.drop n) (by rw [List.length_drop, hz]; omega)]
theorem text_cut128 (y z : List UInt8) (hz : z.length = 128) : textV (y.take 128 ++ z.drop 128) = .string ((⟨y.toArray⟩ : ByteArray).extract 0 128) := by
  rw [List.drop_of_length_le (by omega), List.append_nil]
  unfold textV
  congr 1
  apply ByteArray.ext
  rw [ByteArray.data_extract]
  apply Array.ext'
  rw [Array.toList_extract]
  simp [List.extract_eq_take_drop]
end Go.Proofs.YtaafedpjifaghaaDoor

/- A block that was laid whole is a row that may grow. Law over any program. -/
set_option linter.unusedVariables false
set_option linter.unusedSimpArgs false
namespace Go.Proofs.YtaafedpjifaghaaDoor
open Go.RowKit

theorem St.blkRow {S : Nat → Prop} {w0 w : World} {L : List SP} {g : Nat} {cs : Array Value} {t : TypeId} (H : St S w0 w (Blk g cs t :: L)) {n size : Nat} (hn : cs.size = n * size) (hm : n ≤ maxLen) :
    St S w0 w (Row t size (.slice (some ⟨g, 0, none⟩) n n) n cs.toList :: L) := by
  obtain ⟨h, S1, h1, h2, h3⟩ := H
  refine ⟨h, S1, ⟨⟨by simpa using hn, .inr ⟨g, n, cs, rfl, Nat.zero_le _, h1.1, Nat.le_refl _, hm, hn, by rw [List.take_of_length_le (by simp [hn])]⟩⟩, fun k => ?_⟩, h2, h3⟩
  rw [h1.2 k]
  simp [Value.ownBlock, eq_comm]

end Go.Proofs.YtaafedpjifaghaaDoor

/- The walks of the reference's store: Image, Lay, Load, Reads. Conditions: its blocks lie as its maker lays them. -/
set_option linter.unusedVariables false
set_option linter.unusedSimpArgs false
namespace Go.Proofs.YtaafedpjifaghaaDoor
open Go.RowKit

theorem text_join (x y : List UInt8) : textV (x ++ y) = .string ((⟨x.toArray⟩ : ByteArray) ++ (⟨y.toArray⟩ : ByteArray)) := by
  unfold textV
  refine congrArg Value.string ?_
  first | rfl | (apply ByteArray.ext; rw [ByteArray.data_append]; simp)
theorem text_len (x : List UInt8) : (⟨x.toArray⟩ : ByteArray).size = x.length := by simp [ByteArray.size]
theorem text_mid (b : List UInt8) (i k : Nat) : textV ((b.drop i).take k) = .string ((⟨b.toArray⟩ : ByteArray).extract i (i + k)) := by
  unfold textV
  congr 1
  apply ByteArray.ext
  rw [ByteArray.data_extract]
  apply Array.ext'
  rw [Array.toList_extract]
  simp

set_option maxHeartbeats 2000000 in
set_option maxRecDepth 100000 in
theorem ref_image {b : Nat} {m : StM} {w : World} {S : Nat → Prop} (hg : m.Good) (H : Sep w [RefAt b m] S) :
    Calls Tryd.prog 15 #[.pointer (some ⟨b, 0, none⟩)] w fun e w' => e = .returned (textV m.image) ∧ Below w.heap.size w w' := by
  have hcnt := hg.count
  obtain ⟨vl, vw, vc, H3⟩ := RefAt.open (St.refl H)
  have H3 : St S w w [Blk b #[vl, vw, .int .i64 m.calls, vc] 67, Row 9 1 vl m.last.length (texts m.last), Row 103 2 vw m.waits.length (refWaits m.waits), Row 3 1 vc m.reads.length (intCells m.reads)] := H3
  obtain ⟨gl, ll, rfl⟩ := row_form (H3.row 1 rfl) (N := m.last.length) rfl (by omega)
  have c0 := H3.cell 0 0 rfl rfl
  have hgl := H3.row_lt 1 rfl
  have H4 : St (fun _ => False) w w [] := St.nil _ w
  go_enter Tryd.func15, Tryd.ntmps15
  go_upto_block 1 with (fail)
  clear c0
  go_loopw [3, 11] (fun s j wr => ∃ (k : Nat), k ≤ m.last.length ∧ j = .int .i64 k ∧ s = textV (m.last.take k).flatten ∧ St (fun _ => False) w wr []) (fun _ j _ => m.last.length - (intOf j).toNat)
  case atStart => exact ⟨0, by omega, rfl, rfl, H4⟩
  case round =>
    clear H4
    obtain ⟨k, hk, rfl, rfl, HL⟩ := hrel
    by_cases hlt : k < m.last.length
    · obtain ⟨x, hx⟩ : ∃ x, m.last[k]? = some x := ⟨_, List.getElem?_eq_getElem hlt⟩
      have hsn := Lib.hid (show textV (m.last.take (k + 1)).flatten = .string ((⟨(m.last.take k).flatten.toArray⟩ : ByteArray) ++ (⟨x.toArray⟩ : ByteArray)) by
        rw [take_snoc' hx, List.flatten_append, List.flatten_singleton, text_join])
      have hxl := hg.full x (List.mem_of_getElem? hx)
      have hfl : ((m.last.take k).flatten).length = k * 128 := by
        rw [flat_len (k := 128) (fun x hx => hg.full x (List.mem_of_mem_take hx)), List.length_take, Nat.min_eq_left hk]
      have c1 : wr.cell? ⟨gl, k, none⟩ = some (textV x) := (World.cell?_of_block (w := w) (HL.kept.block gl hgl id)).trans (H3.rowCell 1 k rfl (texts_at hx))
      obtain ⟨X, hX⟩ : ∃ X, (m.last.take k).flatten = X := ⟨_, rfl⟩
      rw [hX] at hsn hfl ⊢
      have hs1 := text_len X
      have hs2 := text_len x
      unfold textV at c1 ⊢
      clear hX hx
      go_wp2
      go_roundw
      case rel => exact ⟨k + 1, by omega, by go_num, hsn.out.symm, HL⟩
      case measure => simp [intOf]; omega
    · obtain rfl : k = m.last.length := by omega
      rw [List.take_length]
      unfold textV
      go_wp2
      go_ret
      exact ⟨rfl, HL.below (Nat.le_refl _) (fun _ h => h.elim)⟩

set_option maxHeartbeats 2000000 in
set_option maxRecDepth 100000 in
theorem ref_load {b : Nat} {m : StM} {bs : List UInt8} {w : World} {S : Nat → Prop} (hg : m.Good) (hbl : bs.length ≤ 9223372036854775807) (H : Sep w [RefAt b m] S) :
    Calls Tryd.prog 34 #[.pointer (some ⟨b, 0, none⟩), textV bs] w fun e w' => e = .returned (.bool (m.load bs).1) ∧ St S w w' [RefAt b (m.load bs).2] := by
  have hcnt := hg.count
  have hsz := text_len bs
  obtain ⟨vl, vw, vc, H3⟩ := RefAt.open (St.refl H)
  have H3 : St S w w [Blk b #[vl, vw, .int .i64 m.calls, vc] 67, Row 9 1 vl m.last.length (texts m.last), Row 103 2 vw m.waits.length (refWaits m.waits), Row 3 1 vc m.reads.length (intCells m.reads)] := H3
  obtain ⟨gl, ll, rfl⟩ := row_form (H3.row 1 rfl) (N := m.last.length) rfl (by omega)
  have c0 := H3.cell 0 0 rfl rfl
  have hwr : IntKind.i64.wrap (128 * (m.last.length : Int)) = 128 * (m.last.length : Int) := by rw [IntKind.wrap_i64]; omega
  unfold textV
  by_cases hc : bs.length = 128 * m.last.length
  · have hfin : m.load bs = (true, { m with last := chunks m.last.length bs, waits := [] }) := by unfold StM.load; rw [if_pos hc]
    rw [hfin]
    have y1 : ((bs.length : Int) != 128 * (m.last.length : Int)) = false := by simp; omega
    clear hfin
    go_enter Tryd.func34, Tryd.ntmps34
    go_upto_block 1 with (fail)
    clear c0 y1
    go_loopw [5, 20] (fun _ j wr => ∃ (k : Nat) (L : List (List UInt8)), k ≤ m.last.length ∧ j = .int .i64 k ∧ L.length = m.last.length ∧ (∀ i, i < k → L[i]? = some ((bs.drop (128 * i)).take 128)) ∧ St S w wr [Blk b #[.slice (some ⟨gl, 0, none⟩) m.last.length ll, vw, .int .i64 m.calls, vc] 67, Row 9 1 (.slice (some ⟨gl, 0, none⟩) m.last.length ll) m.last.length (texts L), Row 103 2 vw m.waits.length (refWaits m.waits), Row 3 1 vc m.reads.length (intCells m.reads)]) (fun _ j _ => m.last.length - (intOf j).toNat)
    case atStart => exact ⟨0, m.last, by omega, rfl, rfl, fun i hi => by omega, H3⟩
    case round =>
      clear H3
      obtain ⟨k, L, hk, rfl, hLl, hLk, HL⟩ := hrel
      by_cases hlt : k < m.last.length
      · obtain ⟨z, hz⟩ : ∃ z, L[k]? = some z := ⟨_, List.getElem?_eq_getElem (by omega)⟩
        have s0 := HL.cell 0 0 rfl rfl
        have r0 := HL.rowCell 1 k rfl (texts_at hz)
        unfold textV at r0
        have f0 := HL.rowFree 1 k rfl
        have H6 : St S w (wr.setCell ⟨gl, k, none⟩ (.string ((⟨bs.toArray⟩ : ByteArray).extract (128 * k) (128 * k + 128)))) [_, _, _, _] := HL.textSet 1 rfl k ((bs.drop (128 * k)).take 128) (text_mid bs (128 * k) 128)
        have hk1 : IntKind.i64.wrap (128 * (k : Int)) = 128 * (k : Int) := by rw [IntKind.wrap_i64]; omega
        have hk2 : IntKind.i64.wrap (128 * (k : Int) + 128) = 128 * (k : Int) + 128 := by rw [IntKind.wrap_i64]; omega
        have hk3 : (128 * (k : Int)).toNat = 128 * k := by omega
        have hk4 : (128 * (k : Int) + 128).toNat = 128 * k + 128 := by omega
        have hkl : 128 * k + 128 ≤ bs.length := by omega
        have hLk2 := Lib.hid (show ∀ i, i < k + 1 → (L.set k ((bs.drop (128 * k)).take 128))[i]? = some ((bs.drop (128 * i)).take 128) from fun i hi => by
          rw [List.getElem?_set]
          by_cases e : k = i
          · subst e
            rw [if_pos rfl, if_pos (by omega)]
          · rw [if_neg e]
            exact hLk i (by omega))
        clear hz hLk
        go_upto_region 6 with (fail)
        go_region
        go_wp2
        go_roundw
        case rel => exact ⟨k + 1, L.set k ((bs.drop (128 * k)).take 128), by omega, by go_num, by simpa using hLl, hLk2.out, H6.drew⟩
        case measure => simp [intOf]; omega
      · obtain rfl : k = m.last.length := by omega
        have hLc : L = chunks m.last.length bs := by
          refine List.ext_getElem? fun i => ?_
          by_cases hi : i < m.last.length
          · rw [hLk i hi, chunks_get bs hi]
          · rw [List.getElem?_eq_none (by omega), List.getElem?_eq_none (by rw [chunks_len]; omega)]
        have hLh := Lib.hid hLc
        clear hLc hLk
        have s1 := HL.cell 0 1 rfl rfl
        have f1 := HL.free 0 1 rfl
        have H6 : St S w _ [_, _, _, _] := HL.set 0 rfl 1 (.slice none 0 0)
        go_wp2
        go_ret
        refine ⟨rfl, RefAt.mk (l := []) (m := { m with last := chunks m.last.length bs, waits := [] }) (vl := .slice (some ⟨gl, 0, none⟩) m.last.length ll) (vw := .slice none 0 0) (vc := vc) ?_⟩
        have H7 := ((H6.pick [0, 1, 3]).row_nil 103 2).pick [1, 2, 0, 3]
        unfold refParts
        simp only [chunks_len]
        rw [← hLh.out]
        exact H7
  · have hfin : m.load bs = (false, m) := by unfold StM.load; rw [if_neg hc]
    rw [hfin]
    have y1 : ((bs.length : Int) != 128 * (m.last.length : Int)) = true := by simp; omega
    clear hfin hc
    go_enter Tryd.func34, Tryd.ntmps34
    go_wp2
    go_ret
    exact ⟨rfl, RefAt.mk (l := []) (vl := .slice (some ⟨gl, 0, none⟩) m.last.length ll) (vw := vw) (vc := vc) H3⟩

end Go.Proofs.YtaafedpjifaghaaDoor

/- The walk of the reference's store: Lay. Conditions: its blocks lie as its maker lays them. -/
set_option linter.unusedVariables false
set_option linter.unusedSimpArgs false
namespace Go.Proofs.YtaafedpjifaghaaDoor
open Go.RowKit

theorem filter_snoc {p : Int × List UInt8 → Bool} (A : List (Int × List UInt8)) (y : Int × List UInt8) : (A ++ [y]).filter p = if p y then A.filter p ++ [y] else A.filter p := by
  rw [List.filter_append]
  cases h : p y <;> simp [h]

set_option maxHeartbeats 2000000 in
set_option maxRecDepth 100000 in
theorem ref_lay {b : Nat} {m : StM} {at' : Int} {bs : List UInt8} {w : World} {S : Nat → Prop} (hg : m.Good) (hbl : bs.length ≤ 9223372036854775807) (H : Sep w [RefAt b m] S) :
    Calls Tryd.prog 32 #[.pointer (some ⟨b, 0, none⟩), .int .i64 at', textV bs] w fun e w' => e = .returned (.bool (m.lay at' bs).1) ∧ St S w w' [RefAt b (m.lay at' bs).2] := by
  have hcnt := hg.count
  have hwl := hg.room
  have hsz := text_len bs
  have hH := Lib.hid (St.refl H)
  obtain ⟨vl, vw, vc, H3⟩ := RefAt.open (St.refl H)
  have H3 : St S w w [Blk b #[vl, vw, .int .i64 m.calls, vc] 67, Row 9 1 vl m.last.length (texts m.last), Row 103 2 vw m.waits.length (refWaits m.waits), Row 3 1 vc m.reads.length (intCells m.reads)] := H3
  obtain ⟨gl, ll, rfl⟩ := row_form (H3.row 1 rfl) (N := m.last.length) rfl (by omega)
  obtain ⟨aw, cw, rfl, _, haw⟩ := slice_form' (H3.row 2 rfl)
  have c0 := H3.cell 0 0 rfl rfl
  unfold textV
  by_cases h0 : 0 ≤ at'
  · have e0 : decide (at' < 0) = false := by simpa using h0
    by_cases h1 : at' < m.last.length
    · have e1 : decide ((m.last.length : Int) ≤ at') = false := by simpa using h1
      by_cases h2 : bs.length = 128
      · obtain ⟨p, rfl⟩ := Int.eq_ofNat_of_zero_le h0
        have hin : m.inn p = true := by simp [StM.inn, h1]
        have e1n : decide (m.last.length ≤ p) = false := by simp; omega
        have hpl : p < m.last.length := by omega
        have hfin : m.lay p bs = (true, { m with last := m.last.set p bs, waits := m.waits.filter fun x => !decide (x.1 = (p : Int)) }) := by unfold StM.lay; rw [if_pos ⟨hin, h2⟩]; rfl
        have e2 : ((⟨bs.toArray⟩ : ByteArray).size : Int) = 128 := by rw [hsz]; omega
        rw [hfin]
        rw [h2] at hsz
        obtain ⟨z, hz⟩ : ∃ z, m.last[p]? = some z := ⟨_, List.getElem?_eq_getElem (by omega)⟩
        have r0 := H3.rowCell 1 p rfl (texts_at hz)
        unfold textV at r0
        have f0 := H3.rowFree 1 p rfl
        have H6 : St S w (w.setCell ⟨gl, p, none⟩ (.string ⟨bs.toArray⟩)) [_, _, _, _] := H3.textSet 1 rfl p bs rfl
        clear hfin hin hz hH H3 h2 e2
        go_enter Tryd.func32, Tryd.ntmps32
        go_upto_region 4 with (fail)
        obtain ⟨w1, hw1⟩ : ∃ w1, w.setCell ⟨gl, p, none⟩ (.string ⟨bs.toArray⟩) = w1 := ⟨_, rfl⟩
        rw [hw1] at H6
        try rw [hw1]
        clear hw1 c0 r0 f0
        have c1 := H6.cell 0 1 rfl rfl
        have H7 : St S w w1 [Row 103 2 (.slice none 0 0) 0 (refWaits []), Blk b #[.slice (some ⟨gl, 0, none⟩) m.last.length ll, .slice aw m.waits.length cw, .int .i64 m.calls, vc] 67, Row 9 1 (.slice (some ⟨gl, 0, none⟩) m.last.length ll) m.last.length (texts (m.last.set p bs)), Row 103 2 (.slice aw m.waits.length cw) m.waits.length (refWaits m.waits), Row 3 1 vc m.reads.length (intCells m.reads)] := H6.row_nil 103 2
        clear H6
        go_upto_block 1 with (fail)
        clear c1
        go_loopw [7, 38] (fun u j wr => ∃ (k : Nat) (Q : List (Int × List UInt8)), k ≤ m.waits.length ∧ j = .int .i64 k ∧ Q = (m.waits.take k).filter (fun x => !decide (x.1 = (p : Int))) ∧ Q.length ≤ k ∧
          St S w wr [Row 103 2 u Q.length (refWaits Q), Blk b #[.slice (some ⟨gl, 0, none⟩) m.last.length ll, .slice aw m.waits.length cw, .int .i64 m.calls, vc] 67, Row 9 1 (.slice (some ⟨gl, 0, none⟩) m.last.length ll) m.last.length (texts (m.last.set p bs)), Row 103 2 (.slice aw m.waits.length cw) m.waits.length (refWaits m.waits), Row 3 1 vc m.reads.length (intCells m.reads)]) (fun _ j _ => m.waits.length - (intOf j).toNat)
        case atStart => exact ⟨0, [], by omega, rfl, rfl, by simp, H7⟩
        case round =>
          clear H7
          obtain ⟨k, Q, hk, rfl, hQ, hQl, HL⟩ := hrel
          by_cases hlt : k < m.waits.length
          · obtain ⟨gw, rfl⟩ := haw (by omega)
            obtain ⟨y, hy⟩ : ∃ y, m.waits[k]? = some y := ⟨_, List.getElem?_eq_getElem hlt⟩
            have hst : (m.waits.take (k + 1)).filter (fun x => !decide (x.1 = (p : Int))) = if y.1 = (p : Int) then Q else Q ++ [y] := by
              rw [take_snoc' hy, filter_snoc, ← hQ]
              by_cases h : y.1 = (p : Int) <;> simp [h]
            have q1 := HL.rowCell 3 (k * 2) rfl (refWaits_at hy).1
            have q2 := HL.rowCell 3 (k * 2 + 1) rfl (refWaits_at hy).2
            have hgw := HL.row_lt 3 rfl
            clear hy hQ
            obtain ⟨y1, y2⟩ := y
            simp only at q1 q2 hst
            unfold textV at q2
            have HA : St S w _ [_, _, _, _, _, _] := HL.allocAt rfl #[.int .i64 y1, .string ⟨y2.toArray⟩] 103
            go_upto_region 8 with (fail)
            obtain ⟨wa, hwa⟩ : ∃ wa, wr.alloc (.cells #[.int .i64 y1, .string ⟨y2.toArray⟩] 103) = wa := ⟨_, rfl⟩
            obtain ⟨ob, hob⟩ : ∃ ob, wr.heap.size = ob := ⟨_, rfl⟩
            rw [hwa, hob] at HA
            try rw [hwa]
            try simp only [hob]
            clear hwa hob q1 q2 HL
            have d0 := HA.cell 0 0 rfl rfl
            have d1 := HA.cell 0 1 rfl rfl
            by_cases hyp : y1 = (p : Int)
            · have z1 : (y1 != (p : Int)) = false := by simpa using hyp
              have hst2 := Lib.hid (show (m.waits.take (k + 1)).filter (fun x => !decide (x.1 = (p : Int))) = Q by rw [hst, if_pos hyp])
              clear hst hyp
              go_wp2
              go_roundw
              case rel => exact ⟨k + 1, Q, by omega, by go_num, hst2.out.symm, by omega, HA.pick [1, 2, 3, 4, 5]⟩
              case measure => simp [intOf]; omega
            · have z1 : (y1 != (p : Int)) = true := by simpa using hyp
              have hst2 := Lib.hid (show (m.waits.take (k + 1)).filter (fun x => !decide (x.1 = (p : Int))) = Q ++ [(y1, y2)] by rw [hst, if_neg hyp])
              clear hst hyp
              go_wp2_with (at_builtin; go_must (refine St.list_app (HA.skip _) 1 rfl rfl (.tmp 46) (.tmp 48) 65 rfl Tryd.underlying65 Tryd.info103 (by decide) rfl [.int .i64 y1, .string ⟨y2.toArray⟩] rfl rfl (new_cells #[.int .i64 y1, .string ⟨y2.toArray⟩] _) (by simp [Value.oneCell']) (by omega) (by omega) ?_; intro g cap2 w3 H4 hz3))
              go_roundw
              case rel =>
                refine ⟨k + 1, Q ++ [(y1, y2)], by omega, by go_num, hst2.out.symm, by simp; omega, ?_⟩
                rw [refWaits_snoc, List.length_append]
                exact H4.pick [1, 2, 3, 4, 5]
              case measure => simp [intOf]; omega
          · obtain rfl : k = m.waits.length := by omega
            rw [List.take_length] at hQ
            have hQh := Lib.hid hQ
            clear hQ
            have s1 := HL.cell 1 1 rfl rfl
            have f1 := HL.free 1 1 rfl
            obtain ⟨ua, uc, rfl, _, _⟩ := slice_form' (HL.row 0 rfl)
            have H6 : St S w _ [_, _, _, _, _] := HL.set 1 rfl 1 (.slice ua Q.length uc)
            go_wp2
            go_ret
            refine ⟨rfl, RefAt.mk (l := []) (vl := .slice (some ⟨gl, 0, none⟩) m.last.length ll) (vw := .slice ua Q.length uc) (vc := vc) ?_⟩
            unfold refParts
            simp only [List.length_set]
            rw [← hQh.out]
            exact H6.pick [1, 2, 0, 4]
      · have hfin : m.lay at' bs = (false, m) := by unfold StM.lay; rw [if_neg (fun h => h2 h.2)]
        have e2 : (bs.length != 128) = true := by simpa using h2
        have e3 : ((bs.length : Int) != 128) = true := by simp; omega
        rw [hfin]
        clear hfin h2
        go_enter Tryd.func32, Tryd.ntmps32
        go_wp2
        go_ret
        exact ⟨rfl, hH.out⟩
    · have hfin : m.lay at' bs = (false, m) := by unfold StM.lay; rw [if_neg (fun h => by have := h.1; simp [StM.inn] at this; omega)]
      have e1 : decide ((m.last.length : Int) ≤ at') = true := by simpa using h1
      rw [hfin]
      clear hfin
      go_enter Tryd.func32, Tryd.ntmps32
      go_wp2
      go_ret
      exact ⟨rfl, hH.out⟩
  · have hfin : m.lay at' bs = (false, m) := by unfold StM.lay; rw [if_neg (fun h => by have := h.1; simp [StM.inn] at this; omega)]
    have e0 : decide (at' < 0) = true := by simpa using h0
    rw [hfin]
    clear hfin
    go_enter Tryd.func32, Tryd.ntmps32
    go_wp2
    go_ret
    exact ⟨rfl, hH.out⟩

end Go.Proofs.YtaafedpjifaghaaDoor
