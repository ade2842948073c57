/- The document's All of windows. Condition: so many windows. -/
import Derived.Test.YtoffcoegghigoaaWdX
namespace Go.Proofs.Ytoffcoegghigoaa
open Go.RowKit

theorem insW_pair {O : List Wd} {b : Wd} (hop : O.Pairwise aheadW) (hb : ∀ o ∈ O, o.joins b = false) (hne : ∀ o ∈ O, b ≠ o) : (insW O b).Pairwise aheadW := by
  unfold insW
  have hcut := List.take_append_drop (posW O b) O
  have hpp := hop
  rw [← hcut] at hpp
  obtain ⟨p1, p2, p3⟩ := List.pairwise_append.1 hpp
  rw [List.pairwise_append]
  refine ⟨p1, List.pairwise_cons.2 ⟨fun z hz => ?_, p2⟩, fun y hy z hz => ?_⟩
  · obtain ⟨j, hj⟩ := List.getElem?_of_mem hz
    rw [List.getElem?_drop] at hj
    have h1 := posW_hi (b := b) hop (Nat.le_add_right _ _) hj
    have hzO := List.mem_of_mem_drop hz
    have h2 : z.place b ≠ 0 := fun e => hne z hzO (place_zero.1 e).symm
    have h3 := place_swap b z
    exact ⟨by omega, by rw [joins_swap]; exact hb z hzO⟩
  · rcases List.mem_cons.1 hz with rfl | hz
    · obtain ⟨j, hj⟩ := List.getElem?_of_mem hy
      have hjl : j < posW O z := by
        have := (List.getElem?_eq_some_iff.1 hj).1
        rw [List.length_take] at this
        omega
      rw [List.getElem?_take] at hj
      rw [if_pos hjl] at hj
      exact ⟨posW_lo hjl hj, hb y (List.mem_of_mem_take hy)⟩
    · exact p3 y hy z hz
theorem joins_self {x : Wd} (h : x.right = true) : x.joins x = true := by
  have hr := right_iff.1 h
  exact joins_iff.2 ⟨h, h, rfl, by omega, by omega⟩
/-- Sorted, of right ones none of which join. -/
theorem srt_law : ∀ O : List Wd, (∀ x ∈ O, x.right = true) → O.Pairwise (fun a b => a.joins b = false) → (srtP O).reverse.Pairwise aheadW ∧ ∀ y, y ∈ (srtP O).reverse ↔ y ∈ O := by
  refine snoc_ind (fun _ _ => ⟨List.Pairwise.nil, fun y => by simp [srtP]⟩) (fun O b ih hr hp => ?_)
  have hp2 := List.pairwise_append.1 hp
  obtain ⟨i1, i2⟩ := ih (fun x hx => hr x (by simp [hx])) hp2.1
  have hbr := hr b (by simp)
  have hj : ∀ o ∈ (srtP O).reverse, o.joins b = false := fun o ho => hp2.2.2 o ((i2 o).1 ho) b (by simp)
  have hne : ∀ o ∈ (srtP O).reverse, b ≠ o := fun o ho e => by
    have := hj o ho
    rw [← e, joins_self hbr] at this
    cases this
  have e : (srtP (O ++ [b])).reverse = insW (srtP O).reverse b := by
    have := ins_pos (srtP O).reverse b i1 hne
    rw [List.reverse_reverse] at this
    rw [srtP_snoc, this]
  rw [e]
  refine ⟨insW_pair i1 hj hne, fun y => ?_⟩
  rw [insW_mem, i2 y]
  simp [or_comm]
theorem srt_all {O l : List Wd} (hl : ∀ x ∈ l, x.fits) (hr : ∀ x ∈ O, x.right = true) (hp : O.Pairwise (fun a b => a.joins b = false)) (hc : ∀ k p, cov O k p ↔ cov (allM l) k p) : (srtP O).reverse = allM l := by
  obtain ⟨h1, h2⟩ := srt_law O hr hp
  refine stl_canon (stl_pair.2 ⟨fun x hx => hr x ((h2 x).1 hx), h1⟩) (allM_law l hl).1 (fun k p => ?_)
  rw [← hc]
  exact ⟨fun ⟨y, hy, h⟩ => ⟨y, (h2 y).1 hy, h⟩, fun ⟨y, hy, h⟩ => ⟨y, (h2 y).2 hy, h⟩⟩

/-! Joining two. -/
def mrg (O : List Wd) (i k : Nat) (y : Wd) : List Wd := (O.set i y).take k ++ (O.set i y).drop (k + 1)
theorem mrg_mem {O : List Wd} {i k : Nat} {y z : Wd} (hik : i < k) (hk : k < O.length) : z ∈ mrg O i k y ↔ z = y ∨ ∃ j, j ≠ i ∧ j ≠ k ∧ O[j]? = some z := by
  unfold mrg
  rw [List.mem_append, List.mem_iff_getElem?, List.mem_iff_getElem?]
  constructor
  · rintro (⟨j, hj⟩ | ⟨j, hj⟩)
    · rw [List.getElem?_take] at hj
      split at hj
      · rename_i hlt
        by_cases e : j = i
        · subst e
          rw [List.getElem?_set_self (by omega)] at hj
          exact .inl (Option.some.inj hj).symm
        · rw [List.getElem?_set_ne (Ne.symm e)] at hj
          exact .inr ⟨j, e, by omega, hj⟩
      · cases hj
    · rw [List.getElem?_drop, List.getElem?_set_ne (by omega)] at hj
      exact .inr ⟨_, by omega, by omega, hj⟩
  · rintro (rfl | ⟨j, h1, h2, hj⟩)
    · refine .inl ⟨i, ?_⟩
      rw [List.getElem?_take, if_pos hik, List.getElem?_set_self (by omega)]
    · rcases Nat.lt_or_gt_of_ne h2 with h | h
      · refine .inl ⟨j, ?_⟩
        rw [List.getElem?_take, if_pos h, List.getElem?_set_ne (Ne.symm h1)]
        exact hj
      · refine .inr ⟨j - (k + 1), ?_⟩
        rw [List.getElem?_drop, List.getElem?_set_ne (by omega)]
        rw [show k + 1 + (j - (k + 1)) = j by omega]
        exact hj
theorem mrg_len {O : List Wd} {i k : Nat} {y : Wd} (hk : k < O.length) : (mrg O i k y).length + 1 = O.length := by
  simp [mrg]
  omega
theorem grow_right {a b : Wd} (h : a.joins b = true) : (grow a b).right = true ∧ (grow a b).key = a.key := by
  obtain ⟨ra, rb, _, _, _⟩ := joins_iff.1 h
  have r1 := right_iff.1 ra
  have r2 := right_iff.1 rb
  refine ⟨right_iff.2 ⟨r1.1, ?_⟩, rfl⟩
  simp only [grow]
  omega
theorem grow_cov {a b : Wd} (h : a.joins b = true) (k : List UInt8) (p : Int) : covW (grow a b) k p ↔ covW a k p ∨ covW b k p := by
  obtain ⟨ra, rb, e, _, _⟩ := joins_iff.1 h
  have r1 := right_iff.1 ra
  have r2 := right_iff.1 rb
  unfold covW
  simp only [grow]
  rw [← e]
  constructor
  · rintro ⟨h1, h2, h3⟩
    by_cases hh : 2 * a.frm ≤ p ∧ p ≤ 2 * a.to
    · exact .inl ⟨h1, hh⟩
    · exact .inr ⟨h1, by omega⟩
  · rintro (⟨h1, h2, h3⟩ | ⟨h1, h2, h3⟩)
    · exact ⟨h1, by omega⟩
    · exact ⟨h1, by omega⟩
def OkW (l O : List Wd) : Prop := (∀ y ∈ O, y.right = true ∧ y.fits) ∧ (∀ k p, cov O k p ↔ cov (allM l) k p) ∧ O.length ≤ l.length
theorem grow_fits {a b : Wd} (ha : a.fits) (hb : b.fits) : (grow a b).fits := by
  unfold Wd.fits grow at *
  exact ⟨ha.1, by simp only; omega, by simp only; omega⟩
theorem mrg_ok {l O : List Wd} {i k : Nat} {a b : Wd} (h : OkW l O) (hik : i < k) (ha : O[i]? = some a) (hb : O[k]? = some b) (hj : a.joins b = true) : OkW l (mrg O i k (grow a b)) := by
  obtain ⟨h1, h2, h3⟩ := h
  have hk := (List.getElem?_eq_some_iff.1 hb).1
  have hl := mrg_len (i := i) (y := grow a b) hk
  refine ⟨fun y hy => ?_, fun kk p => ?_, by omega⟩
  · rcases (mrg_mem hik hk).1 hy with rfl | ⟨j, _, _, hjj⟩
    · exact ⟨(grow_right hj).1, grow_fits (h1 a (List.mem_of_getElem? ha)).2 (h1 b (List.mem_of_getElem? hb)).2⟩
    · exact h1 y (List.mem_of_getElem? hjj)
  · rw [← h2]
    constructor
    · rintro ⟨y, hy, hc⟩
      rcases (mrg_mem hik hk).1 hy with rfl | ⟨j, _, _, hjj⟩
      · rcases (grow_cov hj kk p).1 hc with hc | hc
        · exact ⟨a, List.mem_of_getElem? ha, hc⟩
        · exact ⟨b, List.mem_of_getElem? hb, hc⟩
      · exact ⟨y, List.mem_of_getElem? hjj, hc⟩
    · rintro ⟨y, hy, hc⟩
      obtain ⟨j, hjj⟩ := List.getElem?_of_mem hy
      by_cases e1 : j = i
      · subst e1
        rw [ha] at hjj
        obtain rfl := Option.some.inj hjj
        exact ⟨_, (mrg_mem hik hk).2 (.inl rfl), (grow_cov hj kk p).2 (.inl hc)⟩
      · by_cases e2 : j = k
        · subst e2
          rw [hb] at hjj
          obtain rfl := Option.some.inj hjj
          exact ⟨_, (mrg_mem hik hk).2 (.inl rfl), (grow_cov hj kk p).2 (.inr hc)⟩
        · exact ⟨y, (mrg_mem hik hk).2 (.inr ⟨j, e1, e2, hjj⟩), hc⟩
theorem ok_start {l : List Wd} (hf : ∀ x ∈ l, x.fits) : OkW l (l.filter Wd.right) := by
  refine ⟨fun y hy => ?_, fun k p => ?_, List.length_filter_le _ _⟩
  · obtain ⟨h1, h2⟩ := List.mem_filter.1 hy
    exact ⟨h2, hf y h1⟩
  · rw [allM_cov]
    constructor
    · rintro ⟨y, hy, hc⟩
      obtain ⟨h1, h2⟩ := List.mem_filter.1 hy
      exact ⟨y, h1, h2, hc⟩
    · rintro ⟨y, hy, h2, hc⟩
      exact ⟨y, List.mem_filter.2 ⟨hy, h2⟩, hc⟩
/-- None of the first i joins any behind it, and the next one none of those below k. -/
def Free (O : List Wd) (i k : Nat) : Prop := ∀ (a b : Nat) x y, a < b → (a < i ∨ (a = i ∧ b < k)) → O[a]? = some x → O[b]? = some y → x.joins y = false
theorem free_all {O : List Wd} {i : Nat} (h : Free O i 0) (hi : O.length ≤ i) : O.Pairwise (fun a b => a.joins b = false) :=
  List.pairwise_iff_getElem.2 fun a b ha hb hab => h a b _ _ hab (.inl (by omega)) (List.getElem?_eq_getElem ha) (List.getElem?_eq_getElem hb)
theorem wds_cell {O : List Wd} {R : List Value} {i : Nat} {y : Wd} (hy : O[i]? = some y) :
    (∀ m : Int, (wds O ++ R).toArray.setIfInBounds (i * 3 + 1) (.int .i64 m) = (wds (O.set i ⟨y.key, m, y.to⟩) ++ R).toArray) ∧
    ∀ m : Int, (wds O ++ R).toArray.setIfInBounds (i * 3 + 2) (.int .i64 m) = (wds (O.set i ⟨y.key, y.frm, m⟩) ++ R).toArray := by
  obtain ⟨P, Q, rfl, rfl⟩ : ∃ P Q, O = P ++ y :: Q ∧ P.length = i := by
    obtain ⟨hi, rfl⟩ := List.getElem?_eq_some_iff.1 hy
    exact ⟨O.take i, O.drop (i + 1), by rw [List.getElem_cons_drop, List.take_append_drop], by rw [List.length_take]; omega⟩
  have hl := wds_len P
  have e : ∀ z : Wd, wds (P ++ z :: Q) ++ R = wds P ++ (textV z.key :: .int .i64 z.frm :: .int .i64 z.to :: (wds Q ++ R)) := fun z => by simp [wds]
  have e2 : ∀ z : Wd, (P ++ y :: Q).set P.length z = P ++ z :: Q := fun z => by simp
  constructor
  · intro m
    rw [List.setIfInBounds_toArray, e2, e, e, List.set_append_right _ _ (by omega), show P.length * 3 + 1 - (wds P).length = 1 by omega]
    rfl
  · intro m
    rw [List.setIfInBounds_toArray, e2, e, e, List.set_append_right _ _ (by omega), show P.length * 3 + 2 - (wds P).length = 2 by omega]
    rfl
end Go.Proofs.Ytoffcoegghigoaa
