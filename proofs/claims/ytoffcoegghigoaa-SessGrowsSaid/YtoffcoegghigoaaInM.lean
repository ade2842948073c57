/- What came in, as plain lists: bytes, bools, integers. Laws over any program. No condition of its own. -/
import Derived.Test.YtoffcoegghigoaaIn
import Derived.Test.YtoffcoegghigoaaGen
namespace Go.Proofs.Ytoffcoegghigoaa
open Go.RowKit

theorem list_of {α : Type} {p : Nat → α → Prop} : ∀ n, (∀ i, i < n → ∃ x, p i x) → ∃ l : List α, l.length = n ∧ ∀ i x, l[i]? = some x → p i x
  | 0, _ => ⟨[], rfl, fun i x h => by simp at h⟩
  | n + 1, h => by
    obtain ⟨l, h1, h2⟩ := list_of n (fun i hi => h i (by omega))
    obtain ⟨x, hx⟩ := h n (by omega)
    refine ⟨l ++ [x], by simp [h1], fun i y hi => ?_⟩
    by_cases hq : i < n
    · rw [List.getElem?_append_left (by omega)] at hi
      exact h2 i y hi
    · have hlt := (List.getElem?_eq_some_iff.1 hi).1
      simp [h1] at hlt
      obtain rfl : i = n := by omega
      rw [List.getElem?_append_right (by omega)] at hi
      simp [h1] at hi
      subst hi
      exact hx
theorem max_len : maxLen ≤ 9223372036854775807 := by simp [maxLen]

section
variable {P : Program} {w : World} {t e : TypeId} {cs : List Value}
/-- A slice whose elements each read as something. -/
theorem R.list {α : Type} {p : List Value → α → Prop} {size : Nat} (ht : P.underlying t = some (.slice e)) (hs : P.cellsOf e = size) (hp : 0 < size) (hr : ∀ cs', R P w e cs' → ∃ x, p cs' x) (h : R P w t cs) :
    ∃ ao cap, ∃ l : List α, cs = [.slice ao l.length cap] ∧ l.length ≤ cap ∧ l.length ≤ 9223372036854775807 ∧
      (l ≠ [] → ∃ b o, ao = some ⟨b, o, none⟩ ∧ b < w.heap.size ∧ ∀ i x, l[i]? = some x → ∃ cs', cs'.length = size ∧ w.rangeAt b (o + i * size) cs' ∧ p cs' x) := by
  obtain ⟨ao, len, cap, rfl, h1, h2, h3⟩ := R.slice ht hs hp h
  have hm := max_len
  by_cases h0 : len = 0
  · subst h0
    exact ⟨ao, cap, [], rfl, by simp, by simp, fun h => absurd rfl h⟩
  · obtain ⟨b, o, rfl, hb, hc⟩ := h3 (by omega)
    obtain ⟨l, hl, hx⟩ := list_of (p := fun i x => ∃ cs', cs'.length = size ∧ w.rangeAt b (o + i * size) cs' ∧ p cs' x) len (fun i hi => by
      obtain ⟨cs', g1, g2, g3⟩ := hc i hi
      obtain ⟨x, hx⟩ := hr cs' g3
      exact ⟨x, cs', g1, g2, hx⟩)
    exact ⟨_, cap, l, by rw [hl], by omega, by omega, fun _ => ⟨b, o, rfl, hb, hx⟩⟩
theorem R.bytes (ht : P.underlying t = some (.slice e)) (he : P.underlying e = some (.int .u8)) (hs : P.cellsOf e = 1) (h : R P w t cs) :
    ∃ v l, cs = [v] ∧ BytesRO (fun _ => False) w v l ∧ l.length ≤ 9223372036854775807 := by
  obtain ⟨ao, cap, l, rfl, h1, h2, h3⟩ := R.list (p := fun cs (x : UInt8) => cs = [bv x]) ht hs (by omega) (fun cs' h => by
    obtain ⟨n, rfl, hw⟩ := R.int he h
    simp only [Lit.wf, Bool.and_eq_true, decide_eq_true_eq] at hw
    have e1 : IntKind.u8.min = 0 := rfl
    have e2 : IntKind.u8.max = 255 := rfl
    refine ⟨UInt8.ofNat n.toNat, ?_⟩
    have : (UInt8.ofNat n.toNat).toNat = n.toNat := by simp [UInt8.toNat_ofNat']; omega
    simp only [bv, this]
    rw [Int.toNat_of_nonneg (by omega)]) h
  refine ⟨_, l, rfl, ⟨ao, cap, rfl, h1, fun hl => ?_⟩, h2⟩
  obtain ⟨b, o, rfl, hb, hc⟩ := h3 hl
  refine ⟨b, o, rfl, hb, id, fun i hi => ?_⟩
  obtain ⟨cs', _, g2, rfl⟩ := hc i l[i] (List.getElem?_eq_getElem hi)
  have := g2 0 _ rfl
  simpa using this
theorem R.bools (ht : P.underlying t = some (.slice e)) (he : P.underlying e = some .bool) (hs : P.cellsOf e = 1) (h : R P w t cs) :
    ∃ v l, cs = [v] ∧ BoolsRO (fun _ => False) w v l := by
  obtain ⟨ao, cap, l, rfl, h1, h2, h3⟩ := R.list (p := fun cs (x : Bool) => cs = [.bool x]) ht hs (by omega) (fun cs' h => by
    obtain ⟨n, rfl⟩ := R.bool he h
    exact ⟨n, rfl⟩) h
  refine ⟨_, l, rfl, ⟨ao, cap, rfl, h2, fun hl => ?_⟩⟩
  obtain ⟨b, o, rfl, hb, hc⟩ := h3 hl
  refine ⟨b, o, rfl, hb, id, fun i hi => ?_⟩
  obtain ⟨cs', _, g2, rfl⟩ := hc i l[i] (List.getElem?_eq_getElem hi)
  have := g2 0 _ rfl
  simpa using this
/-- A field of a struct. -/
theorem R.field {fs : Array Field} (ht : P.underlying t = some (.struct fs)) (h : R P w t cs) (i : Nat) {f : Field} (hf : fs[i]? = some f) {o n : Nat} {e : TypeId} (ho : f.offset = o) (he : f.type = e) (hn : P.cellsOf e = n) :
    R P w e ((cs.drop o).take n) := by
  subst ho he hn
  exact (R.struct ht h).2 i f hf
end

end Go.Proofs.Ytoffcoegghigoaa
