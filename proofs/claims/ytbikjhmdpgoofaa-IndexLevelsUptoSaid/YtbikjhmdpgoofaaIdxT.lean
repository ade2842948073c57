/- The document's levels are the index's: each level's stretches, over so many records each, joined. Plain laws, no program in sight. -/
import Derived.Test.YtbikjhmdpgoofaaIdxL
import Derived.Test.YtbikjhmdpgoofaaIdxQ
namespace Go.Proofs.Ytbikjhmdpgoofaa

def foldE (s : Str) (E : List Itm) : Str := E.foldl (fun s x => stepS s x.time) s
def fp (p : Int × Int) (x : Itm) : Int × Int := if p.2 < p.1 then (x.time, x.time) else (min p.1 x.time, max p.2 x.time)
theorem foldE_fp (E : List Itm) : ∀ s : Str, foldE s E = ⟨s.fr, s.to, (E.foldl fp (s.least, s.great)).1, (E.foldl fp (s.least, s.great)).2⟩ := by
  induction E with
  | nil => exact fun s => rfl
  | cons x E ih =>
    intro s
    have h := ih (stepS s x.time)
    have e1 : foldE s (x :: E) = foldE (stepS s x.time) E := rfl
    have e2 : ((stepS s x.time).least, (stepS s x.time).great) = fp (s.least, s.great) x := by
      unfold stepS fp Str.empty
      by_cases h : s.great < s.least <;> simp [h]
    have e3 : (stepS s x.time).fr = s.fr ∧ (stepS s x.time).to = s.to := by
      unfold stepS
      split <;> exact ⟨rfl, rfl⟩
    rw [e1, h, e2, e3.1, e3.2]
    rfl
theorem both_fp (p q : Int × Int) (x : Itm) (hp : p.2 < p.1 → p = (1, 0)) (hq : q.2 < q.1 → q = (1, 0)) : fp (both p.1 p.2 q.1 q.2) x = both p.1 p.2 (fp q x).1 (fp q x).2 ∧ ¬ (fp q x).2 < (fp q x).1 := by
  obtain ⟨l, g⟩ := p
  obtain ⟨el, eg⟩ := q
  obtain ⟨tm, htm⟩ : ∃ tm, x.time = tm := ⟨_, rfl⟩
  simp only [fp, htm, both] at hp hq ⊢
  have e0 : ¬ tm < tm := by omega
  by_cases h1 : g < l
  · rw [if_pos h1, if_pos h1]
    by_cases h2 : eg < el
    · simp [h2]
    · have e1 : ¬ max eg tm < min el tm := by omega
      simp [h2, e1]
  · rw [if_neg h1, if_neg h1]
    by_cases h2 : eg < el
    · simp [h1, h2]
    · have e1 : ¬ max eg tm < min el tm := by omega
      have e2 : ¬ max g eg < min l el := by omega
      simp only [h2, e1, e2, if_false, Prod.mk.injEq]
      refine ⟨⟨by omega, by omega⟩, by simp⟩
/-- What a fold adds: the least and the greatest, joined. -/
theorem fp_both (p : Int × Int) (hp : p.2 < p.1 → p = (1, 0)) (E : List Itm) :
    E.foldl fp p = both p.1 p.2 (E.foldl fp (1, 0)).1 (E.foldl fp (1, 0)).2 ∧ ((E.foldl fp (1, 0)).2 < (E.foldl fp (1, 0)).1 → E.foldl fp (1, 0) = (1, 0)) := by
  rw [← List.reverse_reverse E]
  generalize E.reverse = R
  induction R with
  | nil =>
    refine ⟨?_, fun _ => rfl⟩
    obtain ⟨l, g⟩ := p
    show (l, g) = both l g 1 0
    unfold both
    by_cases h : g < l
    · rw [if_pos h, if_pos (by omega)]
      exact hp h
    · rw [if_neg h, if_pos (by omega)]
  | cons x R ih =>
    obtain ⟨ih1, ih2⟩ := ih
    simp only [List.reverse_cons, List.foldl_append, List.foldl_cons, List.foldl_nil]
    rw [ih1]
    obtain ⟨h1, h2⟩ := both_fp p (R.reverse.foldl fp (1, 0)) x hp ih2
    exact ⟨h1, fun h => absurd h h2⟩
theorem evsS_app (A B : List Rcd) : evsS (A ++ B) = evsS A ++ evsS B := by simp [evsS]
theorem manyS_app {A B : List Rcd} (hA : A ≠ []) (hB : B ≠ []) : manyS (A ++ B) = joinS (manyS A) (manyS B) := by
  obtain ⟨a, A', rfl⟩ := List.exists_cons_of_ne_nil hA
  have e1 : seqOf (a :: A' ++ B) = a.seq := rfl
  have e2 : seqTo (a :: A' ++ B) = seqTo B := by
    unfold seqTo
    rw [List.getLast?_append]
    cases h : B.getLast? with
    | none => simp at h; exact absurd h hB
    | some y => rfl
  have e3 : seqOf (a :: A') = a.seq := rfl
  have m : ∀ l : List Rcd, manyS l = ⟨seqOf l, seqTo l, ((evsS l).foldl fp (1, 0)).1, ((evsS l).foldl fp (1, 0)).2⟩ := fun l => foldE_fp (evsS l) _
  rw [m, m, m, e1, e2, e3, evsS_app, List.foldl_append]
  obtain ⟨_, h4⟩ := fp_both (1, 0) (fun _ => rfl) (evsS (a :: A'))
  obtain ⟨h5, _⟩ := fp_both _ h4 (evsS B)
  rw [h5]
  rfl
theorem manyS_one (r : Rcd) : manyS [r] = oneS r.seq r.items := by simp [manyS, evsS, seqOf, seqTo, oneS]

/-- So many stretches, each over so many records. -/
def partsS (l : List Rcd) (span n : Nat) : List Str := (List.range n).map fun j => manyS ((l.drop (j * span)).take span)
def levelS (l : List Rcd) (span : Nat) : List Str := partsS l span ((l.length + span - 1) / span)
theorem parts_snoc (l : List Rcd) (span n : Nat) : partsS l span (n + 1) = partsS l span n ++ [manyS ((l.drop (n * span)).take span)] := by simp [partsS, List.range_succ]
theorem parts_len (l : List Rcd) (span n : Nat) : (partsS l span n).length = n := by simp [partsS]
theorem parts_get (l : List Rcd) (span n i : Nat) (h : i < n) : (partsS l span n)[i]? = some (manyS ((l.drop (i * span)).take span)) := by
  simp [partsS, h]
theorem cnt_iff {n span i : Nat} (hs : 0 < span) : i < (n + span - 1) / span ↔ i * span < n := by
  rw [Nat.lt_div_iff_mul_lt hs]
  omega
theorem level_get {l : List Rcd} {span : Nat} (hs : 0 < span) (i : Nat) : (levelS l span)[i]? = if i * span < l.length then some (manyS ((l.drop (i * span)).take span)) else none := by
  by_cases h : i * span < l.length
  · rw [if_pos h]
    exact parts_get _ _ _ _ ((cnt_iff hs).2 h)
  · rw [if_neg h, List.getElem?_eq_none]
    unfold levelS
    rw [parts_len]
    have := mt (cnt_iff (n := l.length) (i := i) hs).1 h
    omega
theorem level_len {l : List Rcd} {span : Nat} : (levelS l span).length = (l.length + span - 1) / span := parts_len _ _ _
/-- So many parts joined are one. -/
theorem join_parts {l : List Rcd} {span : Nat} (hs : 0 < span) (i0 : Nat) : ∀ m, 0 < m → (i0 + (m - 1)) * span < l.length →
    joinAll ((List.range m).map fun j => manyS ((l.drop ((i0 + j) * span)).take span)) = some (manyS ((l.drop (i0 * span)).take (m * span)))
  | 0, h, _ => by omega
  | 1, _, _ => by simp [joinAll]
  | m + 2, _, h2 => by
    have e1 : (i0 + (m + 1)) * span = i0 * span + (m + 1) * span := Nat.add_mul _ _ _
    have e2 : (m + 1) * span = m * span + span := Nat.succ_mul _ _
    have e3 : (i0 + (m + 1 - 1)) * span = i0 * span + m * span := by rw [Nat.add_sub_cancel, Nat.add_mul]
    have e0 : m + 2 - 1 = m + 1 := rfl
    rw [e0, e1] at h2
    have ih := join_parts (l := l) (span := span) hs i0 (m + 1) (by omega) (by rw [e3]; omega)
    rw [List.range_succ, List.map_append, List.map_singleton, joinAll_snoc ih]
    have hA : (l.drop (i0 * span)).take ((m + 1) * span) ≠ [] := by
      rw [ne_eq, ← List.length_eq_zero_iff, List.length_take, List.length_drop]
      omega
    have hB : (l.drop ((i0 + (m + 1)) * span)).take span ≠ [] := by
      rw [ne_eq, ← List.length_eq_zero_iff, List.length_take, List.length_drop, e1]
      omega
    rw [← manyS_app hA hB]
    congr 2
    rw [show m + 2 = (m + 1) + 1 from rfl, Nat.succ_mul (m + 1), List.take_add, List.drop_drop, ← Nat.add_mul]
/-- The level above, by the records. -/
theorem level_above {l : List Rcd} {span w : Nat} (hs : 0 < span) (hw : 0 < w) : aboveS w (levelS l span) = levelS l (span * w) := by
  have hsw : 0 < span * w := Nat.mul_pos hs hw
  refine List.ext_getElem? fun i => ?_
  rw [above_get hw, level_get hsw]
  have hi : i * (span * w) = (i * w) * span := by rw [Nat.mul_comm span w, Nat.mul_assoc]
  by_cases h : i * (span * w) < l.length
  · rw [if_pos h]
    obtain ⟨m, hm⟩ : ∃ m, min w ((levelS l span).length - i * w) = m := ⟨_, rfl⟩
    have hlt : i * w < (levelS l span).length := by
      rw [level_len, cnt_iff hs, ← hi]
      exact h
    have hm0 : 0 < m := by omega
    have hmw : m ≤ w := by omega
    have hin : i * w + (m - 1) < (levelS l span).length := by omega
    have hin2 : (i * w + (m - 1)) * span < l.length := by
      rw [level_len, cnt_iff hs] at hin
      exact hin
    have hc : chunk w (levelS l span) i = (List.range m).map fun j => manyS ((l.drop ((i * w + j) * span)).take span) := by
      refine List.ext_getElem? fun j => ?_
      unfold chunk
      by_cases hj : j < m
      · rw [List.getElem?_take_of_lt (by omega), List.getElem?_drop, level_get hs, if_pos, List.getElem?_map, List.getElem?_range hj]
        · rfl
        · have : (i * w + j) * span ≤ (i * w + (m - 1)) * span := Nat.mul_le_mul_right _ (by omega)
          omega
      · rw [List.getElem?_eq_none (by rw [List.length_take, List.length_drop]; omega), List.getElem?_eq_none (by simp; omega)]
    have e : (i * w + (m - 1)) * span + span = (i * w + m) * span := by
      obtain ⟨k, rfl⟩ : ∃ k, m = k + 1 := ⟨m - 1, by omega⟩
      rw [Nat.add_sub_cancel, ← Nat.add_assoc, Nat.succ_mul]
    rw [hc, join_parts hs (i * w) m hm0 hin2, hi]
    congr 2
    -- the take reaches as far
    rcases Nat.lt_or_ge m w with g | g
    · have hl : (levelS l span).length = i * w + m := by omega
      have h9 : ¬ (i * w + m) * span < l.length := by
        rw [← cnt_iff hs, ← level_len, hl]
        omega
      have e5 : (i * w + m) * span = i * w * span + m * span := Nat.add_mul _ _ _
      have h8 : m * span ≤ span * w := by rw [Nat.mul_comm span w]; exact Nat.mul_le_mul_right _ hmw
      rw [List.take_of_length_le (by rw [List.length_drop]; omega), List.take_of_length_le (by rw [List.length_drop]; omega)]
    · obtain rfl : m = w := by omega
      rw [Nat.mul_comm m span]
  · rw [if_neg h]
    have : chunk w (levelS l span) i = [] := by
      refine chunk_nil _ _ _ ?_
      rcases Nat.lt_or_ge (i * w) (levelS l span).length with g | g
      · exfalso
        rw [level_len, cnt_iff hs, ← hi] at g
        exact h g
      · exact g
    rw [this]
    rfl
theorem level_one (l : List Rcd) : levelS l 1 = l.map fun r => oneS r.seq r.items := by
  refine List.ext_getElem? fun i => ?_
  rw [level_get (by omega), Nat.mul_one, List.getElem?_map]
  by_cases h : i < l.length
  · rw [if_pos h, List.take_one, List.head?_drop, List.getElem?_eq_getElem h]
    simp [manyS_one]
  · rw [if_neg h, List.getElem?_eq_none (by omega)]
    rfl
theorem level_ne {l : List Rcd} {span : Nat} (hs : 0 < span) (hl : l ≠ []) : 0 < (levelS l span).length := by
  rw [level_len, cnt_iff hs, Nat.zero_mul]
  exact List.length_pos_iff.2 hl
theorem level_few {l : List Rcd} {span : Nat} (hs : 0 < span) (h : 1 < (levelS l span).length) : span < l.length := by
  rw [level_len, cnt_iff hs, Nat.one_mul] at h
  exact h
theorem level_le {l : List Rcd} {span : Nat} (hs : 0 < span) : (levelS l span).length ≤ l.length := by
  rcases Nat.lt_or_ge l.length (levelS l span).length with g | g
  · exfalso
    rw [level_len, cnt_iff hs] at g
    have := Nat.le_mul_of_pos_right l.length hs
    omega
  · exact g

end Go.Proofs.Ytbikjhmdpgoofaa
