/- Items in a row of a call's own: plain laws; own rows as blocks; an item stored into the midst. -/
import Derived.Test.YtoffcoegghigoaaEvA
import Derived.Test.YtoffcoegghigoaaArrMid
import Derived.Lib.SliceRun
namespace Go.Proofs.Ytoffcoegghigoaa
open Go.RowKit

theorem Try.info85 : (Try.prog.info? 85).map (fun i => (i.zero, i.size, i.bytes)) = some (some (.agg #[.int .i64 0, .string ⟨#[]⟩, .int .i64 0, .int .i64 0]), 4, 40) := by kernel_rfl
def itms (l : List Itm) : List Value := (l.map fun x => (itmC x).toList).flatten
theorem itms_app (l m : List Itm) : itms (l ++ m) = itms l ++ itms m := by simp [itms]
theorem itms_one (x : Itm) : itms [x] = [.int .i64 x.kind, textV x.key, .int .i64 x.time, .int .i64 x.value] := by simp [itms]
theorem itms_len (l : List Itm) : (itms l).length = l.length * 4 := by
  induction l with
  | nil => rfl
  | cons x l ih => simp only [itms, List.map_cons, List.flatten_cons, List.length_append, List.length_cons] at ih ⊢; rw [ih]; simp; omega
theorem itms_get {l : List Itm} {i j : Nat} {x : Itm} {v : Value} (hi : l[i]? = some x) (hj : (itmC x).toList[j]? = some v) : (itms l)[i * 4 + j]? = some v := by
  have hk : ∀ y ∈ l.map fun x => (itmC x).toList, y.length = 4 := by
    intro y hy
    obtain ⟨x, _, rfl⟩ := List.mem_map.1 hy
    rfl
  have hi2 : (l.map fun x => (itmC x).toList)[i]? = some (itmC x).toList := by rw [List.getElem?_map, hi]; rfl
  have hj4 : j < 4 := (List.getElem?_eq_some_iff.1 hj).1
  exact (flat_get hk hi2 hj4).trans hj
theorem itms_one1 (l : List Itm) : ∀ u ∈ itms l, u.oneCell' = true := by
  intro u hu
  obtain ⟨y, hy, hu⟩ := List.mem_flatten.1 hu
  obtain ⟨x, _, rfl⟩ := List.mem_map.1 hy
  simp at hu
  rcases hu with rfl | rfl | rfl | rfl <;> rfl

/-- Items that can be read. -/
def ItmsRO (w : World) (v : Value) (l : List Itm) : Prop :=
  ∃ ad cap, v = .slice ad l.length cap ∧ l.length ≤ cap ∧ (∀ x ∈ l, x.fits) ∧ (l ≠ [] → ∃ b o, ad = some ⟨b, o, none⟩ ∧ b < w.heap.size ∧ ∀ i x, l[i]? = some x → w.rangeAt b (o + i * 4) (itmC x).toList)
theorem ItmsRO.later {w w' : World} {v : Value} {l : List Itm} (hv : ItmsRO w v l) (hk : Kept (fun _ => False) w w') : ItmsRO w' v l := by
  obtain ⟨ad, cap, e1, e2, e3, e4⟩ := hv
  refine ⟨ad, cap, e1, e2, e3, fun hl => ?_⟩
  obtain ⟨b, o, g1, g2, g4⟩ := e4 hl
  exact ⟨b, o, g1, Nat.lt_of_lt_of_le g2 hk.size, fun i x hi j v hj => (World.cell?_of_block (w := w) (hk.block b g2 id)).trans (g4 i x hi j v hj)⟩
theorem itm_cells {w w' : World} {b o i : Nat} {x : Itm} (h : w.rangeAt b (o + i * 4) (itmC x).toList) (hb : w'.heap[b]? = w.heap[b]?) :
    w'.cell? ⟨b, o + i * 4, none⟩ = some (.int .i64 x.kind) ∧ w'.cell? ⟨b, o + i * 4 + 1, none⟩ = some (textV x.key) ∧ w'.cell? ⟨b, o + i * 4 + 2, none⟩ = some (.int .i64 x.time) ∧ w'.cell? ⟨b, o + i * 4 + 3, none⟩ = some (.int .i64 x.value) :=
  ⟨(World.cell?_of_block hb).trans (h 0 _ rfl), (World.cell?_of_block hb).trans (h 1 _ rfl), (World.cell?_of_block hb).trans (h 2 _ rfl), (World.cell?_of_block hb).trans (h 3 _ rfl)⟩
theorem itms_own {w : World} {v : Value} {n : Nat} {l : List Itm} (h : w.ownsRow 0 85 4 v n (itms l)) (hf : ∀ x ∈ l, x.fits) : ItmsRO w v l := by
  have hn : n = l.length := by
    have := h.1
    have e := itms_len l
    omega
  subst hn
  rcases own_shape h with ⟨rfl, h0⟩ | ⟨g, cap, rfl, hc, hg⟩
  · obtain rfl : l = [] := List.eq_nil_of_length_eq_zero h0
    exact ⟨none, 0, rfl, Nat.le_refl _, by simp, fun h => absurd rfl h⟩
  · refine ⟨_, cap, rfl, hc, hf, fun _ => ⟨g, 0, rfl, hg, fun i x hi j z hj => ?_⟩⟩
    show w.cell? ⟨g, 0 + i * 4 + j, none⟩ = some z
    rw [Nat.zero_add]
    exact own_cell h (itms_get hi hj)
/-- All cells of readable items, one by one. -/
theorem ItmsRO.cells {w : World} {v : Value} {l : List Itm} (hv : ItmsRO w v l) : ∃ ad cap, v = .slice ad l.length cap ∧ (ad = none → l = []) ∧ ∀ p, ad = some p → ∀ j u, (itms l)[j]? = some u → w.cell? (p.add j) = some u := by
  obtain ⟨ad, cap, rfl, _, _, h⟩ := hv
  refine ⟨ad, cap, rfl, fun e => ?_, fun p hp j u hj => ?_⟩
  · refine Classical.byContradiction fun hl => ?_
    obtain ⟨b, o, e2, _⟩ := h hl
    rw [e] at e2
    cases e2
  · by_cases hl : l = []
    · subst hl; simp [itms] at hj
    · obtain ⟨b, o, e2, _, h4⟩ := h hl
      rw [hp] at e2
      obtain rfl := Option.some.inj e2
      have hlt := (List.getElem?_eq_some_iff.1 hj).1
      rw [itms_len] at hlt
      obtain ⟨x, hx⟩ : ∃ x, l[j / 4]? = some x := ⟨_, List.getElem?_eq_getElem (by omega)⟩
      have hm : j % 4 < (itmC x).toList.length := by show j % 4 < 4; omega
      have hj2 := itms_get hx (List.getElem?_eq_getElem hm)
      rw [show j / 4 * 4 + j % 4 = j by omega, hj] at hj2
      rw [Addr.add_lit]
      have := h4 (j / 4) x hx (j % 4) u ((List.getElem?_eq_getElem hm).trans hj2.symm)
      rw [show o + j / 4 * 4 + j % 4 = o + j by omega] at this
      exact this

theorem itms_set {l : List Itm} (R : List Value) {i : Nat} (x : Itm) (hi : i < l.length) : splice (itms l ++ R) (i * 4) (itmC x).toList = itms (l.set i x) ++ R := by
  have e1 : itms l = itms (l.take i) ++ (itms (l.drop i)) := by rw [← itms_app, List.take_append_drop]
  obtain ⟨y, hy⟩ : ∃ y, l[i]? = some y := ⟨_, List.getElem?_eq_getElem hi⟩
  have hyl : l[i] = y := by simpa [List.getElem?_eq_getElem hi] using hy
  have e2 : l.drop i = y :: l.drop (i + 1) := by rw [List.drop_eq_getElem_cons hi, hyl]
  have e3 : itms (l.drop i) = (itmC y).toList ++ itms (l.drop (i + 1)) := by rw [e2]; simp [itms]
  have e4 : itms (l.set i x) = itms (l.take i) ++ ((itmC x).toList ++ itms (l.drop (i + 1))) := by
    rw [List.set_eq_take_append_cons_drop, if_pos hi, itms_app]
    simp [itms]
  have e5 : (itms (l.take i)).length = i * 4 := by rw [itms_len, List.length_take]; omega
  have e6 : (itmC x).toList.length = 4 := rfl
  have e7 : (itmC y).toList.length = 4 := rfl
  rw [e4, e1, e3]
  unfold splice
  simp only [List.append_assoc]
  rw [List.take_append_of_le_length (by omega), List.take_of_length_le (by omega), List.drop_append, List.drop_of_length_le (by omega), List.nil_append, e5, e6, show i * 4 + 4 - i * 4 = 4 by omega, List.drop_append, List.drop_of_length_le (l := (itmC y).toList) (by omega), List.nil_append, e7]
  rfl

section
variable {S : Nat → Prop} {w0 w w' : World} {l : List SP}
/-- An own row that is not empty is a block. -/
theorem St.row_blk (h : St S w0 w l) (i : Nat) {e : TypeId} {size : Nat} {v : Value} {n : Nat} {xs : List Value} (hi : l[i]? = some (Row e size v n xs)) (hn : n ≠ 0) :
    ∃ g cap R, v = .slice (some ⟨g, 0, none⟩) n cap ∧ n ≤ cap ∧ cap ≤ maxLen ∧ xs.length = n * size ∧ (xs ++ R).length = cap * size ∧ St S w0 w (l.set i (Blk g (xs ++ R).toArray e)) := by
  obtain ⟨S1, h1, h2⟩ := h.turn i hi
  obtain ⟨⟨hl, ho⟩, hS⟩ := h1
  rcases ho with ⟨_, h0⟩ | ⟨g, cap, cur, hv, _, hg, hnc, hcm, hcs, hx⟩
  · exact absurd h0 hn
  · have ec : xs ++ cur.toList.drop (n * size) = cur.toList := by rw [← hx, List.take_append_drop]
    refine ⟨g, cap, cur.toList.drop (n * size), hv, hnc, hcm, hl, by rw [ec]; simpa using hcs, ?_⟩
    refine h2 (S1' := S1) (Kept.refl _ _) ⟨?_, fun k => ?_⟩ (fun k hk => .inl hk)
    · rw [ec]; simpa using hg
    · rw [hS k, hv]
      show some g = some k ↔ k = g
      constructor
      · intro e; exact (Option.some.inj e).symm
      · intro e; rw [e]
/-- A block is an own row, so long as you say. -/
theorem St.blk_row (h : St S w0 w l) (i : Nat) {e : TypeId} {size g cap n : Nat} {cs : List Value} {xs : List Value} (hi : l[i]? = some (Blk g cs.toArray e)) (hnc : n ≤ cap) (hcm : cap ≤ maxLen) (hc : cs.length = cap * size) (hx : cs.take (n * size) = xs) :
    St S w0 w (l.set i (Row e size (.slice (some ⟨g, 0, none⟩) n cap) n xs)) := by
  obtain ⟨S1, h1, h2⟩ := h.turn i hi
  refine h2 (S1' := S1) (Kept.refl _ _) ⟨⟨?_, .inr ⟨g, cap, cs.toArray, rfl, Nat.zero_le _, h1.1, hnc, hcm, by simpa using hc, by simpa using hx⟩⟩, fun k => ?_⟩ (fun k hk => .inl hk)
  · rw [← hx, List.length_take, hc]
    have := Nat.mul_le_mul_right size hnc
    omega
  · rw [h1.2 k]
    show k = g ↔ some g = some k
    constructor
    · intro e; rw [e]
    · intro e; exact (Option.some.inj e).symm
end
end Go.Proofs.Ytoffcoegghigoaa
