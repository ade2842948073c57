/- A ring that came in. A plain law. -/
import Derived.Test.YtbikjhmdpgoofabRingA
import Derived.Test.YtbikjhmdpgoofabInM
namespace Go.Proofs.Ytbikjhmdpgoofab
open Go.RowKit

/-- An element of one cell of an array. -/
theorem R.item {P : Program} {w : World} {t e : TypeId} {cs : List Value} {n : Nat} (ht : P.underlying t = some (.array n e)) (he : P.cellsOf e = 1) (h : R P w t cs) (i : Nat) (hi : i < n) {c : Value} (hc : cs[i]? = some c) : R P w e [c] := by
  have h1 := (R.array ht h).2 i hi
  rw [he, Nat.mul_one] at h1
  obtain ⟨hlt, rfl⟩ := List.getElem?_eq_some_iff.1 hc
  rwa [List.drop_eq_getElem_cons hlt, List.take_succ_cons, List.take_zero] at h1
/-- A ring that came in. -/
theorem ring_read_in {w : World} {v : Value} (h : R Try.prog w 23 v.cells.toList) (hs : ∃ cs, v = .agg cs) : ∃ f l, v = ringV f l ∧ (Lit.int .i64 f).wf = true ∧ (Lit.int .i64 l).wf = true := by
  obtain ⟨cs, rfl⟩ := hs
  have hl : cs.toList.length = 2 := (R.struct Try.underlying23 h).1.trans (by kernel_rfl)
  obtain ⟨c0, c1, hc⟩ : ∃ a b, cs.toList = [a, b] := by
    match cs.toList, hl with
    | [a, b], _ => exact ⟨a, b, rfl⟩
  have hc' : cs = #[c0, c1] := by apply Array.ext'; rw [hc]
  subst hc'
  have r0 : R Try.prog w 3 [c0] := R.field Try.underlying23 h 0 rfl (o := 0) (n := 1) rfl rfl (by kernel_rfl)
  have r1 : R Try.prog w 3 [c1] := R.field Try.underlying23 h 1 rfl (o := 1) (n := 1) rfl rfl (by kernel_rfl)
  obtain ⟨n0, e0, h0⟩ := R.int Try.underlying3 r0
  obtain ⟨n1, e1, h1⟩ := R.int Try.underlying3 r1
  simp only [List.cons.injEq, and_true] at e0 e1
  subst e0 e1
  exact ⟨n0, n1, rfl, h0, h1⟩

end Go.Proofs.Ytbikjhmdpgoofab
