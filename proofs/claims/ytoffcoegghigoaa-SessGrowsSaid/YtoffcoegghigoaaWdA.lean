/- Windows in rows: laws. -/
import Derived.Test.YtoffcoegghigoaaWdM
import Derived.Test.YtoffcoegghigoaaItmA
import Derived.Test.YtoffcoegghigoaaClkD
import Derived.Lib.SliceRun
namespace Go.Proofs.Ytoffcoegghigoaa
open Go.RowKit

abbrev wdC (x : Wd) : Array Value := #[textV x.key, .int .i64 x.frm, .int .i64 x.to]
abbrev wdV (x : Wd) : Value := .agg (wdC x)
theorem Try.info41 : (Try.prog.info? 41).map (fun i => (i.zero, i.size, i.bytes)) = some (some (.agg #[.string ⟨#[]⟩, .int .i64 0, .int .i64 0]), 3, 32) := by kernel_rfl
def wds (l : List Wd) : List Value := (l.map fun x => (wdC x).toList).flatten
theorem wds_app (l m : List Wd) : wds (l ++ m) = wds l ++ wds m := by simp [wds]
theorem wds_one (x : Wd) : wds [x] = [textV x.key, .int .i64 x.frm, .int .i64 x.to] := by simp [wds]
theorem wds_len (l : List Wd) : (wds l).length = l.length * 3 := by
  induction l with
  | nil => rfl
  | cons x l ih => simp only [wds, List.map_cons, List.flatten_cons, List.length_append, List.length_cons] at ih ⊢; rw [ih]; simp; omega
theorem wds_get {l : List Wd} {i j : Nat} {x : Wd} {v : Value} (hi : l[i]? = some x) (hj : (wdC x).toList[j]? = some v) : (wds l)[i * 3 + j]? = some v := by
  have hk : ∀ y ∈ l.map fun x => (wdC x).toList, y.length = 3 := by
    intro y hy
    obtain ⟨x, _, rfl⟩ := List.mem_map.1 hy
    rfl
  have hi2 : (l.map fun x => (wdC x).toList)[i]? = some (wdC x).toList := by rw [List.getElem?_map, hi]; rfl
  have hj4 : j < 3 := (List.getElem?_eq_some_iff.1 hj).1
  exact (flat_get hk hi2 hj4).trans hj
theorem wds_one1 (l : List Wd) : ∀ u ∈ wds l, u.oneCell' = true := by
  intro u hu
  obtain ⟨y, hy, hu⟩ := List.mem_flatten.1 hu
  obtain ⟨x, _, rfl⟩ := List.mem_map.1 hy
  simp at hu
  rcases hu with rfl | rfl | rfl <;> rfl

/-- Items that can be read. -/
def WdsRO (w : World) (v : Value) (l : List Wd) : Prop :=
  ∃ ad cap, v = .slice ad l.length cap ∧ l.length ≤ cap ∧ (∀ x ∈ l, x.fits) ∧ (l ≠ [] → ∃ b o, ad = some ⟨b, o, none⟩ ∧ b < w.heap.size ∧ ∀ i x, l[i]? = some x → w.rangeAt b (o + i * 3) (wdC x).toList)
theorem WdsRO.later {w w' : World} {v : Value} {l : List Wd} (hv : WdsRO w v l) (hk : Kept (fun _ => False) w w') : WdsRO w' v l := by
  obtain ⟨ad, cap, e1, e2, e3, e4⟩ := hv
  refine ⟨ad, cap, e1, e2, e3, fun hl => ?_⟩
  obtain ⟨b, o, g1, g2, g4⟩ := e4 hl
  exact ⟨b, o, g1, Nat.lt_of_lt_of_le g2 hk.size, fun i x hi j v hj => (World.cell?_of_block (w := w) (hk.block b g2 id)).trans (g4 i x hi j v hj)⟩
theorem wd_cells {w w' : World} {b o i : Nat} {x : Wd} (h : w.rangeAt b (o + i * 3) (wdC x).toList) (hb : w'.heap[b]? = w.heap[b]?) :
    w'.cell? ⟨b, o + i * 3, none⟩ = some (textV x.key) ∧ w'.cell? ⟨b, o + i * 3 + 1, none⟩ = some (.int .i64 x.frm) ∧ w'.cell? ⟨b, o + i * 3 + 2, none⟩ = some (.int .i64 x.to) :=
  ⟨(World.cell?_of_block hb).trans (h 0 _ rfl), (World.cell?_of_block hb).trans (h 1 _ rfl), (World.cell?_of_block hb).trans (h 2 _ rfl)⟩
theorem wds_own {w : World} {v : Value} {n : Nat} {l : List Wd} (h : w.ownsRow 0 41 3 v n (wds l)) (hf : ∀ x ∈ l, x.fits) : WdsRO w v l := by
  have hn : n = l.length := by
    have := h.1
    have e := wds_len l
    omega
  subst hn
  rcases own_shape h with ⟨rfl, h0⟩ | ⟨g, cap, rfl, hc, hg⟩
  · obtain rfl : l = [] := List.eq_nil_of_length_eq_zero h0
    exact ⟨none, 0, rfl, Nat.le_refl _, by simp, fun h => absurd rfl h⟩
  · refine ⟨_, cap, rfl, hc, hf, fun _ => ⟨g, 0, rfl, hg, fun i x hi j z hj => ?_⟩⟩
    show w.cell? ⟨g, 0 + i * 3 + j, none⟩ = some z
    rw [Nat.zero_add]
    exact own_cell h (wds_get hi hj)
/-- All cells of readable items, one by one. -/
theorem WdsRO.cells {w : World} {v : Value} {l : List Wd} (hv : WdsRO w v l) : ∃ ad cap, v = .slice ad l.length cap ∧ (ad = none → l = []) ∧ ∀ p, ad = some p → ∀ j u, (wds l)[j]? = some u → w.cell? (p.add j) = some u := by
  obtain ⟨ad, cap, rfl, _, _, h⟩ := hv
  refine ⟨ad, cap, rfl, fun e => ?_, fun p hp j u hj => ?_⟩
  · refine Classical.byContradiction fun hl => ?_
    obtain ⟨b, o, e2, _⟩ := h hl
    rw [e] at e2
    cases e2
  · by_cases hl : l = []
    · subst hl; simp [wds] at hj
    · obtain ⟨b, o, e2, _, h4⟩ := h hl
      rw [hp] at e2
      obtain rfl := Option.some.inj e2
      have hlt := (List.getElem?_eq_some_iff.1 hj).1
      rw [wds_len] at hlt
      obtain ⟨x, hx⟩ : ∃ x, l[j / 3]? = some x := ⟨_, List.getElem?_eq_getElem (by omega)⟩
      have hm : j % 3 < (wdC x).toList.length := by show j % 3 < 3; omega
      have hj2 := wds_get hx (List.getElem?_eq_getElem hm)
      rw [show j / 3 * 3 + j % 3 = j by omega, hj] at hj2
      rw [Addr.add_lit]
      have := h4 (j / 3) x hx (j % 3) u ((List.getElem?_eq_getElem hm).trans hj2.symm)
      rw [show o + j / 3 * 3 + j % 3 = o + j by omega] at this
      exact this

theorem wds_set {l : List Wd} (R : List Value) {i : Nat} (x : Wd) (hi : i < l.length) : splice (wds l ++ R) (i * 3) (wdC x).toList = wds (l.set i x) ++ R := by
  have e1 : wds l = wds (l.take i) ++ (wds (l.drop i)) := by rw [← wds_app, List.take_append_drop]
  obtain ⟨y, hy⟩ : ∃ y, l[i]? = some y := ⟨_, List.getElem?_eq_getElem hi⟩
  have hyl : l[i] = y := by simpa [List.getElem?_eq_getElem hi] using hy
  have e2 : l.drop i = y :: l.drop (i + 1) := by rw [List.drop_eq_getElem_cons hi, hyl]
  have e3 : wds (l.drop i) = (wdC y).toList ++ wds (l.drop (i + 1)) := by rw [e2]; simp [wds]
  have e4 : wds (l.set i x) = wds (l.take i) ++ ((wdC x).toList ++ wds (l.drop (i + 1))) := by
    rw [List.set_eq_take_append_cons_drop, if_pos hi, wds_app]
    simp [wds]
  have e5 : (wds (l.take i)).length = i * 3 := by rw [wds_len, List.length_take]; omega
  have e6 : (wdC x).toList.length = 3 := rfl
  have e7 : (wdC y).toList.length = 3 := rfl
  rw [e4, e1, e3]
  unfold splice
  simp only [List.append_assoc]
  rw [List.take_append_of_le_length (by omega), List.take_of_length_le (by omega), List.drop_append, List.drop_of_length_le (by omega), List.nil_append, e5, e6, show i * 3 + 3 - i * 3 = 3 by omega, List.drop_append, List.drop_of_length_le (l := (wdC y).toList) (by omega), List.nil_append, e7]
  rfl

theorem row_wds {w : World} {base g n cap : Nat} {L : List Wd} {e : TypeId} (h : w.ownsRow base e 3 (.slice (some ⟨g, 0, none⟩) n cap) n (wds L)) {j : Nat} {x : Wd} (hx : L[j]? = some x) :
    w.cell? ⟨g, j * 3, none⟩ = some (textV x.key) ∧ w.cell? ⟨g, j * 3 + 1, none⟩ = some (.int .i64 x.frm) ∧ w.cell? ⟨g, j * 3 + 2, none⟩ = some (.int .i64 x.to) :=
  ⟨own_cell h (wds_get (j := 0) hx rfl), own_cell h (wds_get (j := 1) hx rfl), own_cell h (wds_get (j := 2) hx rfl)⟩
theorem blk_wds {w : World} {g : Nat} {L : List Wd} {R : List Value} {t : TypeId} (h : w.heap[g]? = some (.cells (wds L ++ R).toArray t (0, 0))) {j : Nat} {x : Wd} (hx : L[j]? = some x) :
    w.cell? ⟨g, j * 3, none⟩ = some (textV x.key) ∧ w.cell? ⟨g, j * 3 + 1, none⟩ = some (.int .i64 x.frm) ∧ w.cell? ⟨g, j * 3 + 2, none⟩ = some (.int .i64 x.to) := by
  have key : ∀ c v, (wdC x).toList[c]? = some v → w.cell? ⟨g, j * 3 + c, none⟩ = some v := fun c v hv => by
    have h2 := wds_get hx hv
    have hlt := (List.getElem?_eq_some_iff.1 h2).1
    refine cell_blk' h ?_
    rw [List.getElem?_toArray, List.getElem?_append_left hlt]
    exact h2
  exact ⟨key 0 _ rfl, key 1 _ rfl, key 2 _ rfl⟩
end Go.Proofs.Ytoffcoegghigoaa
