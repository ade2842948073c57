/- What the index's statements are handed: stretches, pairs of times. -/
import Derived.Test.YtbikjhmdpgoofaaIdxA
import Derived.Test.YtbikjhmdpgoofaaInM
namespace Go.Proofs.Ytbikjhmdpgoofaa
open Go.RowKit

/-- An element of one cell of an array. -/
theorem R.item1 {P : Program} {w : World} {t e : TypeId} {cs : List Value} {n : Nat} (ht : P.underlying t = some (.array n e)) (he : P.cellsOf e = 1) (h : R P w t cs) (i : Nat) (hi : i < n) {c : Value} (hc : cs[i]? = some c) : R P w e [c] := by
  have h1 := (R.array ht h).2 i hi
  rw [he, Nat.mul_one] at h1
  obtain ⟨hlt, rfl⟩ := List.getElem?_eq_some_iff.1 hc
  rwa [List.drop_eq_getElem_cons hlt, List.take_succ_cons, List.take_zero] at h1
theorem str_read_in {w : World} {v : Value} (h : R Try.prog w 76 v.cells.toList) (hs : ∃ cs, v = .agg cs) : ∃ s, v = strV s := by
  obtain ⟨cs, rfl⟩ := hs
  have hl : cs.toList.length = 4 := (R.struct Try.underlying76 h).1.trans (by kernel_rfl)
  obtain ⟨c0, c1, c2, c3, hc⟩ : ∃ a b c d, cs.toList = [a, b, c, d] := by
    match cs.toList, hl with
    | [a, b, c, d], _ => exact ⟨a, b, c, d, rfl⟩
  have hc' : cs = #[c0, c1, c2, c3] := by apply Array.ext'; rw [hc]
  subst hc'
  have r0 : R Try.prog w 3 [c0] := R.field Try.underlying76 h 0 rfl (o := 0) (n := 1) rfl rfl (by kernel_rfl)
  have r1 : R Try.prog w 3 [c1] := R.field Try.underlying76 h 1 rfl (o := 1) (n := 1) rfl rfl (by kernel_rfl)
  have r2 : R Try.prog w 3 [c2] := R.field Try.underlying76 h 2 rfl (o := 2) (n := 1) rfl rfl (by kernel_rfl)
  have r3 : R Try.prog w 3 [c3] := R.field Try.underlying76 h 3 rfl (o := 3) (n := 1) rfl rfl (by kernel_rfl)
  obtain ⟨n0, e0, _⟩ := R.int Try.underlying3 r0
  obtain ⟨n1, e1, _⟩ := R.int Try.underlying3 r1
  obtain ⟨n2, e2, _⟩ := R.int Try.underlying3 r2
  obtain ⟨n3, e3, _⟩ := R.int Try.underlying3 r3
  simp only [List.cons.injEq, and_true] at e0 e1 e2 e3
  subst e0 e1 e2 e3
  exact ⟨⟨n0, n1, n2, n3⟩, rfl⟩
theorem pair_read {w : World} {v : Value} (h : R Try.prog w 61 v.cells.toList) (hs : ∃ cs, v = .agg cs) : ∃ a b : Int, v = .agg #[.int .i64 a, .int .i64 b] ∧ (-9223372036854775808 ≤ a ∧ a ≤ 9223372036854775807) ∧ (-9223372036854775808 ≤ b ∧ b ≤ 9223372036854775807) := by
  obtain ⟨cs, rfl⟩ := hs
  have hl3 : cs.toList.length = 2 := (R.array Try.underlying61 h).1.trans (by kernel_rfl)
  obtain ⟨c0, c1, hc⟩ : ∃ a b, cs.toList = [a, b] := by
    match cs.toList, hl3 with
    | [a, b], _ => exact ⟨a, b, rfl⟩
  have hc' : cs = #[c0, c1] := by apply Array.ext'; rw [hc]
  subst hc'
  have r0 : R Try.prog w 3 [c0] := R.item1 Try.underlying61 (by kernel_rfl) h 0 (by omega) rfl
  have r1 : R Try.prog w 3 [c1] := R.item1 Try.underlying61 (by kernel_rfl) h 1 (by omega) rfl
  obtain ⟨n0, e0, g0⟩ := R.int Try.underlying3 r0
  obtain ⟨n1, e1, g1⟩ := R.int Try.underlying3 r1
  simp only [List.cons.injEq, and_true] at e0 e1
  subst e0 e1
  simp only [Lit.wf, Bool.and_eq_true, decide_eq_true_eq] at g0 g1
  exact ⟨n0, n1, rfl, by simp [IntKind.min, IntKind.max, IntKind.signed, IntKind.bits] at g0; exact g0, by simp [IntKind.min, IntKind.max, IntKind.signed, IntKind.bits] at g1; exact g1⟩

end Go.Proofs.Ytbikjhmdpgoofaa
