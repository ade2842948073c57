/- What the words' statements take in. Plain laws. -/
import Derived.Test.YtoffcoegghigoaaLexF
import Derived.Test.YtoffcoegghigoaaInM
namespace Go.Proofs.Ytoffcoegghigoaa
open Go.RowKit

theorem split_most (bs : List UInt8) : (lex.splitW bs).1.length ≤ 9223372036854775807 := by
  unfold lex.splitW
  split
  · simp
  · split
    · simp
    · split
      · simp
      · simp only; omega
theorem text_of (s : ByteArray) : Value.string s = textV s.data.toList := by
  cases s
  simp [textV]
theorem text_read {w : World} {cs : List Value} (h : R Try.prog w 9 cs) : ∃ x : List UInt8, cs = [textV x] ∧ x.length ≤ 9223372036854775807 := by
  obtain ⟨s, e, hl⟩ := R.text Try.underlying9 h
  have e3 : s.data.toList.length = s.size := Array.length_toList
  have e4 : maxLen = 9223372036854775807 := rfl
  exact ⟨s.data.toList, by rw [e, text_of], by omega⟩
theorem strs_read {w : World} {cs : List Value} (h : R Try.prog w 23 cs) : ∃ v l, cs = [v] ∧ StrsRO w v l ∧ l.length ≤ 9223372036854775807 ∧ ∀ x ∈ l, x.length ≤ 9223372036854775807 := by
  obtain ⟨ao, cap, l, rfl, h1, h2, h3⟩ := R.list (p := fun cs (x : List UInt8) => cs = [textV x] ∧ x.length ≤ 9223372036854775807) Try.underlying23 (size := 1) (by kernel_rfl) (by omega) (fun cs' h => text_read h) h
  refine ⟨_, l, rfl, ⟨ao, cap, rfl, by omega, fun hl => ?_⟩, h2, fun x hx => ?_⟩
  · obtain ⟨b, o, rfl, hb, hc⟩ := h3 hl
    refine ⟨b, o, rfl, hb, fun i hi => ?_⟩
    obtain ⟨cs', _, g2, rfl, _⟩ := hc i _ (List.getElem?_eq_getElem hi)
    have := g2 0 _ rfl
    simpa using this
  · obtain ⟨b, o, _, _, hc⟩ := h3 (fun h => by subst h; simp at hx)
    obtain ⟨i, hi⟩ := List.getElem?_of_mem hx
    obtain ⟨cs', _, _, _, g⟩ := hc i x hi
    exact g

end Go.Proofs.Ytoffcoegghigoaa
