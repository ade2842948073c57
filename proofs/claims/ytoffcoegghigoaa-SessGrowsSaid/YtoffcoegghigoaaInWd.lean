/- Windows that came in, read by their type. -/
import Derived.Test.YtoffcoegghigoaaWdA
import Derived.Test.YtoffcoegghigoaaInZ
import Derived.Test.YtoffcoegghigoaaUpR
namespace Go.Proofs.Ytoffcoegghigoaa
open Go.RowKit

theorem wd_read {w : World} {cs : List Value} (h : R Try.prog w 41 cs) : ∃ x : Wd, cs = (wdC x).toList ∧ x.fits := by
  have hl : cs.length = 3 := (R.struct Try.underlying41 h).1.trans (by kernel_rfl)
  obtain ⟨c0, c1, c2, rfl⟩ : ∃ a b c, cs = [a, b, c] := by
    match cs, hl with
    | [a, b, c], _ => exact ⟨a, b, c, rfl⟩
  have r0 : R Try.prog w 9 [c0] := R.field Try.underlying41 h 0 rfl (o := 0) (n := 1) rfl rfl (by kernel_rfl)
  have r1 : R Try.prog w 3 [c1] := R.field Try.underlying41 h 1 rfl (o := 1) (n := 1) rfl rfl (by kernel_rfl)
  have r2 : R Try.prog w 3 [c2] := R.field Try.underlying41 h 2 rfl (o := 2) (n := 1) rfl rfl (by kernel_rfl)
  obtain ⟨s, e0, g0⟩ := R.text Try.underlying9 r0
  obtain ⟨n1, e1, g1⟩ := R.int Try.underlying3 r1
  obtain ⟨n2, e2, g2⟩ := R.int Try.underlying3 r2
  simp only [List.cons.injEq, and_true] at e0 e1 e2
  subst e0 e1 e2
  have hs : s.data.toList.length = s.size := Array.length_toList
  have hm : maxLen = 9223372036854775807 := rfl
  refine ⟨⟨s.data.toList, n1, n2⟩, ?_, ⟨by simp only; omega, int_bounds g1, int_bounds g2⟩⟩
  cases s
  simp [textV]
theorem wd_in {w : World} {v : Value} (h : R Try.prog w 41 v.cells.toList) (hs : ∃ cs, v = .agg cs) : ∃ x : Wd, v = wdV x ∧ x.fits := by
  obtain ⟨cs, rfl⟩ := hs
  obtain ⟨x, h1, h2⟩ := wd_read h
  refine ⟨x, ?_, h2⟩
  have h1 : cs.toList = (wdC x).toList := h1
  show Value.agg cs = .agg (wdC x)
  rw [Array.toList_inj.1 h1]
theorem wds_in {w : World} {v : Value} (h : RZ Try.prog w 39 v.cells.toList) (hs : ∃ a len cap, v = .slice a len cap) : ∃ l, WdsRO w v l ∧ l.length + 3 ≤ 4398046511104 := by
  obtain ⟨a, len, cap, rfl⟩ := hs
  obtain ⟨ao, cap', l, e, h1, h2, h3⟩ := R.list (p := fun cs (x : Wd) => cs = (wdC x).toList ∧ x.fits) Try.underlying39 (by kernel_rfl) (size := 3) (by omega) (fun cs' h => wd_read h) h.r
  have hz := RZ.len Try.underlying39 h (ao := ao) (len := l.length) (cap := cap') e
  rw [show Try.prog.bytesOf 41 = 32 by kernel_rfl] at hz
  have e2 : Value.slice a len cap = .slice ao l.length cap' := by simpa [Value.cells] using e
  rw [e2]
  have hx : ∀ x ∈ l, x.fits := fun x hx => by
    obtain ⟨b, o, _, _, hc⟩ := h3 (by rintro rfl; cases hx)
    obtain ⟨i, hi⟩ := List.getElem?_of_mem hx
    obtain ⟨cs', _, _, _, g⟩ := hc i x hi
    exact g
  refine ⟨l, ⟨ao, cap', rfl, h1, hx, fun hl => ?_⟩, by omega⟩
  obtain ⟨b, o, rfl, hb, hc⟩ := h3 hl
  refine ⟨b, o, rfl, hb, fun i x hi => ?_⟩
  obtain ⟨cs', _, g2, rfl, _⟩ := hc i x hi
  exact g2
end Go.Proofs.Ytoffcoegghigoaa
