/- Sorting that keeps the order of what is equal: plain laws. -/
import Derived.Test.YtoffcoegghigoaaClkG
namespace Go.Proofs.Ytoffcoegghigoaa
open Go.RowKit

def Asc (l : List Itm) : Prop := l.Pairwise fun x y => x.time ≤ y.time
def atT (τ : Int) (l : List Itm) : List Itm := l.filter fun x => decide (x.time = τ)
def FSame (l m : List Itm) : Prop := l.Perm m ∧ ∀ τ, atT τ l = atT τ m
theorem atT_app (τ : Int) (l m : List Itm) : atT τ (l ++ m) = atT τ l ++ atT τ m := by simp [atT]
theorem FSame.refl (l : List Itm) : FSame l l := ⟨List.Perm.refl _, fun _ => rfl⟩
theorem FSame.trans {l m k : List Itm} (h : FSame l m) (g : FSame m k) : FSame l k := ⟨h.1.trans g.1, fun t => (h.2 t).trans (g.2 t)⟩
theorem FSame.symm {l m : List Itm} (h : FSame l m) : FSame m l := ⟨h.1.symm, fun t => (h.2 t).symm⟩
theorem FSame.app {l m l' m' : List Itm} (h : FSame l l') (g : FSame m m') : FSame (l ++ m) (l' ++ m') := ⟨h.1.append g.1, fun t => by rw [atT_app, atT_app, h.2, g.2]⟩
theorem FSame.len {l m : List Itm} (h : FSame l m) : l.length = m.length := h.1.length_eq
theorem FSame.all {l m : List Itm} (h : FSame l m) {p : Itm → Prop} (hp : ∀ z ∈ m, p z) : ∀ z ∈ l, p z := fun z hz => hp z (h.1.mem_iff.1 hz)

theorem atT_nil_of {τ : Int} {l : List Itm} (h : ∀ x ∈ l, x.time ≠ τ) : atT τ l = [] := by
  unfold atT
  rw [List.filter_eq_nil_iff]
  intro x hx
  simpa using h x hx
theorem asc_unique : ∀ {l m : List Itm}, Asc l → Asc m → FSame l m → l = m
  | [], m, _, _, h => by
    have := h.len
    simp at this
    exact (List.eq_nil_of_length_eq_zero (by simpa using this.symm)).symm
  | x :: l, [], _, _, h => by have := h.len; simp at this
  | x :: l, y :: m, hl, hm, h => by
    have hl' := List.pairwise_cons.1 hl
    have hm' := List.pairwise_cons.1 hm
    have hx : x ∈ y :: m := h.1.mem_iff.1 (by simp)
    have hy : y ∈ x :: l := h.1.mem_iff.2 (by simp)
    have e1 : y.time ≤ x.time := by
      rcases List.mem_cons.1 hx with rfl | hx
      · exact Int.le_refl _
      · exact hm'.1 x hx
    have e2 : x.time ≤ y.time := by
      rcases List.mem_cons.1 hy with rfl | hy
      · exact Int.le_refl _
      · exact hl'.1 y hy
    have e3 : x.time = y.time := by omega
    have h2 := h.2 x.time
    have hxy : x = y := by
      unfold atT at h2
      rw [List.filter_cons_of_pos (by simp), List.filter_cons_of_pos (by simp [e3])] at h2
      exact (List.cons.inj h2).1
    subst hxy
    congr 1
    refine asc_unique hl'.2 hm'.2 ⟨h.1.cons_inv, fun t => ?_⟩
    have h3 := h.2 t
    unfold atT at h3 ⊢
    by_cases ht : x.time = t
    · rw [List.filter_cons_of_pos (by simpa using ht), List.filter_cons_of_pos (by simpa using ht)] at h3
      exact (List.cons.inj h3).2
    · rw [List.filter_cons_of_neg (by simpa using ht), List.filter_cons_of_neg (by simpa using ht)] at h3
      exact h3

/-! The insertion sort. -/
def Desc (l : List Itm) : Prop := l.Pairwise fun x y => y.time ≤ x.time
theorem insR_perm : ∀ (r : List Itm) (x : Itm), (insR r x).Perm (x :: r)
  | [], x => List.Perm.refl _
  | y :: r, x => by
    unfold insR
    split
    · exact ((insR_perm r x).cons y).trans (List.Perm.swap x y r)
    · exact List.Perm.refl _
theorem insR_desc : ∀ {r : List Itm} {x : Itm}, Desc r → Desc (insR r x)
  | [], x, _ => by simp [insR, Desc]
  | y :: r, x, h => by
    have h' := List.pairwise_cons.1 h
    unfold insR
    split
    · rename_i hxy
      refine List.pairwise_cons.2 ⟨fun z hz => ?_, insR_desc h'.2⟩
      rcases List.mem_cons.1 ((insR_perm r x).mem_iff.1 hz) with rfl | hz
      · omega
      · exact h'.1 z hz
    · rename_i hxy
      refine List.pairwise_cons.2 ⟨fun z hz => ?_, h⟩
      rcases List.mem_cons.1 hz with rfl | hz
      · omega
      · have := h'.1 z hz
        omega
theorem insR_at (τ : Int) : ∀ (r : List Itm) (x : Itm), atT τ (insR r x) = atT τ [x] ++ atT τ r
  | [], x => by simp [insR, atT]
  | y :: r, x => by
    unfold insR
    split
    · rename_i hxy
      have ih := insR_at τ r x
      unfold atT at ih ⊢
      by_cases hy : y.time = τ
      · have hx : ¬ x.time = τ := by omega
        rw [List.filter_cons_of_pos (by simpa using hy), ih, List.filter_cons_of_pos (l := r) (by simpa using hy), List.filter_cons_of_neg (by simpa using hx)]
        rfl
      · rw [List.filter_cons_of_neg (by simpa using hy), ih, List.filter_cons_of_neg (l := r) (by simpa using hy)]
    · rw [show x :: y :: r = [x] ++ (y :: r) from rfl, atT_app]
theorem isr_desc (l : List Itm) : Desc (isr l) := by
  have key : ∀ (l r : List Itm), Desc r → Desc (l.foldl insR r) := by
    intro l
    induction l with
    | nil => exact fun r h => h
    | cons x l ih => exact fun r h => ih _ (insR_desc h)
  exact key l [] List.Pairwise.nil
theorem isr_fsame (l : List Itm) : FSame (isr l).reverse l := by
  have key : ∀ (l r : List Itm), (l.foldl insR r).Perm (r ++ l) ∧ ∀ τ, atT τ (l.foldl insR r) = (atT τ l).reverse ++ atT τ r := by
    intro l
    induction l with
    | nil => exact fun r => ⟨by simp, fun τ => by simp [atT]⟩
    | cons x l ih =>
      intro r
      obtain ⟨i1, i2⟩ := ih (insR r x)
      refine ⟨i1.trans ?_, fun τ => ?_⟩
      · refine ((insR_perm r x).append_right l).trans ?_
        show (x :: (r ++ l)).Perm (r ++ x :: l)
        exact List.perm_middle.symm
      · rw [List.foldl_cons, i2 τ, insR_at, show x :: l = [x] ++ l from rfl, atT_app, List.reverse_append, List.append_assoc]
        have : (atT τ [x]).reverse = atT τ [x] := by
          unfold atT
          by_cases hx : x.time = τ
          · rw [List.filter_cons_of_pos (by simpa using hx)]; rfl
          · rw [List.filter_cons_of_neg (by simpa using hx)]; rfl
        rw [this]
  obtain ⟨k1, k2⟩ := key l []
  refine ⟨(List.reverse_perm _).trans k1, fun τ => ?_⟩
  have := k2 τ
  unfold atT at this ⊢
  unfold isr
  rw [List.filter_reverse, this]
  simp
theorem isr_asc (l : List Itm) : Asc (isr l).reverse := List.pairwise_reverse.2 (isr_desc l)

/-! What a merge brings. -/
def Mrg (U V W : List Itm) : Prop := Asc W ∧ FSame W (U ++ V)
theorem Mrg.left {U : List Itm} (h : Asc U) : Mrg U [] U := ⟨h, by simpa using FSame.refl U⟩
theorem Mrg.right {V : List Itm} (h : Asc V) : Mrg [] V V := ⟨h, by simpa using FSame.refl V⟩
theorem asc_app {l m : List Itm} : Asc (l ++ m) ↔ Asc l ∧ Asc m ∧ ∀ x ∈ l, ∀ y ∈ m, x.time ≤ y.time := List.pairwise_append
/-- One into many: it stands first. -/
theorem mrg_one {x : Itm} {V1 V2 : List Itm} (hV : Asc (V1 ++ V2)) (h1 : ∀ v ∈ V1, v.time < x.time) (h2 : ∀ v ∈ V2, ¬ v.time < x.time) : Mrg [x] (V1 ++ V2) (V1 ++ (x :: V2)) := by
  obtain ⟨a1, a2, a3⟩ := asc_app.1 hV
  refine ⟨asc_app.2 ⟨a1, List.pairwise_cons.2 ⟨fun y hy => by have := h2 y hy; omega, a2⟩, fun u hu y hy => ?_⟩, ?_, fun τ => ?_⟩
  · rcases List.mem_cons.1 hy with rfl | hy
    · have := h1 u hu; omega
    · exact a3 u hu y hy
  · exact List.perm_middle
  · rw [show V1 ++ x :: V2 = V1 ++ ([x] ++ V2) from rfl, atT_app, atT_app, atT_app, atT_app, ← List.append_assoc, ← List.append_assoc]
    congr 1
    by_cases hx : x.time = τ
    · rw [atT_nil_of (l := V1) (fun v hv => by have := h1 v hv; omega)]; simp
    · rw [atT_nil_of (l := [x]) (fun v hv => by obtain rfl := List.mem_singleton.1 hv; exact hx)]; simp
/-- Many, and one: it stands last. -/
theorem mrg_last {y : Itm} {U1 U2 : List Itm} (hU : Asc (U1 ++ U2)) (h1 : ∀ u ∈ U1, ¬ y.time < u.time) (h2 : ∀ u ∈ U2, y.time < u.time) : Mrg (U1 ++ U2) [y] (U1 ++ (y :: U2)) := by
  obtain ⟨a1, a2, a3⟩ := asc_app.1 hU
  refine ⟨asc_app.2 ⟨a1, List.pairwise_cons.2 ⟨fun z hz => by have := h2 z hz; omega, a2⟩, fun u hu z hz => ?_⟩, ?_, fun τ => ?_⟩
  · rcases List.mem_cons.1 hz with rfl | hz
    · have := h1 u hu; omega
    · exact a3 u hu z hz
  · rw [List.append_assoc]
    exact (List.perm_append_comm (l₁ := [y]) (l₂ := U2)).append_left U1
  · rw [show U1 ++ y :: U2 = U1 ++ ([y] ++ U2) from rfl, atT_app, atT_app, atT_app, atT_app, List.append_assoc]
    congr 1
    by_cases hx : y.time = τ
    · rw [atT_nil_of (l := U2) (fun v hv => by have := h2 v hv; omega)]; simp
    · rw [atT_nil_of (l := [y]) (fun v hv => by obtain rfl := List.mem_singleton.1 hv; exact hx)]; simp
/-- Two merges side by side, behind a turn. -/
theorem mrg_two {U1 U2 V1 V2 W1 W2 : List Itm} (hU : Asc (U1 ++ U2)) (hV : Asc (V1 ++ V2)) (h1 : ∀ x ∈ U2, ∀ y ∈ V1, y.time < x.time) (h2 : ∀ x ∈ U1, ∀ y ∈ V2, x.time ≤ y.time) (g1 : Mrg U1 V1 W1) (g2 : Mrg U2 V2 W2) :
    Mrg (U1 ++ U2) (V1 ++ V2) (W1 ++ W2) := by
  obtain ⟨a1, a2, a3⟩ := asc_app.1 hU
  obtain ⟨b1, b2, b3⟩ := asc_app.1 hV
  refine ⟨asc_app.2 ⟨g1.1, g2.1, fun x hx y hy => ?_⟩, ?_⟩
  · have hx := g1.2.1.mem_iff.1 hx
    have hy := g2.2.1.mem_iff.1 hy
    rcases List.mem_append.1 hx with hx | hx <;> rcases List.mem_append.1 hy with hy | hy
    · exact a3 x hx y hy
    · exact h2 x hx y hy
    · have := h1 y hy x hx; omega
    · exact b3 x hx y hy
  · refine (g1.2.app g2.2).trans ⟨?_, fun τ => ?_⟩
    · rw [List.append_assoc, List.append_assoc]
      refine List.Perm.append_left U1 ?_
      rw [← List.append_assoc, ← List.append_assoc]
      exact (List.perm_append_comm (l₁ := V1) (l₂ := U2)).append_right V2
    · simp only [atT_app, List.append_assoc]
      congr 1
      rw [← List.append_assoc, ← List.append_assoc]
      congr 1
      by_cases hc : ∃ y ∈ V1, y.time = τ
      · obtain ⟨y, hy, rfl⟩ := hc
        rw [atT_nil_of (l := U2) (fun x hx => by have := h1 x hx y hy; omega)]; simp
      · rw [atT_nil_of (l := V1) (fun x hx he => hc ⟨x, hx, he⟩)]; simp

/-! Parts that are sorted. -/
def Chunks (c : Nat) (l : List Itm) : Prop := ∀ k, Asc ((l.drop (k * c)).take c)
theorem Asc.take {l : List Itm} (h : Asc l) (n : Nat) : Asc (l.take n) := List.Pairwise.sublist (List.take_sublist n l) h
theorem Asc.drop {l : List Itm} (h : Asc l) (n : Nat) : Asc (l.drop n) := List.Pairwise.sublist (List.drop_sublist n l) h
theorem Chunks.whole {c : Nat} {l : List Itm} (h : Chunks c l) (hl : l.length ≤ c) : Asc l := by
  have := h 0
  rwa [Nat.zero_mul, List.drop_zero, List.take_of_length_le hl] at this
theorem chunks_one {c : Nat} {l : List Itm} (h : Asc l) : Chunks c l := fun k => (h.drop _).take _
theorem chunks_app {c j : Nat} {D E : List Itm} (hD : Chunks c D) (hj : D.length = j * c) (hE : Chunks c E) : Chunks c (D ++ E) := by
  intro k
  by_cases hk : k < j
  · have h1 : (k + 1) * c ≤ D.length := by rw [hj]; exact Nat.mul_le_mul_right c hk
    rw [Nat.add_mul, Nat.one_mul] at h1
    rw [List.drop_append_of_le_length (by omega), List.take_append_of_le_length (by rw [List.length_drop]; omega)]
    exact hD k
  · have h1 : D.length ≤ k * c := by rw [hj]; exact Nat.mul_le_mul_right c (by omega)
    rw [List.drop_append, List.drop_of_length_le h1, List.nil_append, hj, ← Nat.sub_mul]
    exact hE (k - j)
theorem Chunks.drop {c j : Nat} {l : List Itm} (h : Chunks c l) : Chunks c (l.drop (j * c)) := by
  intro k
  rw [List.drop_drop, ← Nat.add_mul]
  exact h _
theorem Chunks.first {c : Nat} {l : List Itm} (h : Chunks c l) : Asc (l.take c) := by simpa using h 0
end Go.Proofs.Ytoffcoegghigoaa
