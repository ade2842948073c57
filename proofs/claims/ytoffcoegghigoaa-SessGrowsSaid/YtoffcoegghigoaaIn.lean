/- What came in, read by its type: integers, texts, structs, arrays, slices of these. Laws over any program. No condition of its own. -/
import Derived.Test.YtoffcoegghigoaaSep
import Derived.Test.YtoffcoegghigoaaStoreM
import Derived.ProofKit
import Derived.OpenShut
import Derived.Deep.MidRow
namespace Go.Proofs.Ytoffcoegghigoaa
open Go.RowKit

/-- These cells read as a value of this type. -/
def R (P : Program) (w : World) (t : TypeId) (cs : List Value) : Prop :=
  ∃ (H : Type) (enc : TypeId × Value → H) (spare : Nat → Bool) (held : Bool) (fuel : Nat) (x : DataW H × List MemPlace), DataW.trod enc P w 0 spare held fuel t cs = some x

section
variable {P : Program} {w : World} {t e : TypeId} {cs : List Value}
theorem R.int {k : IntKind} (ht : P.underlying t = some (.int k)) (h : R P w t cs) : ∃ n, cs = [.int k n] ∧ (Lit.int k n).wf = true := by
  obtain ⟨H, enc, spare, held, fuel, x, h⟩ := h
  obtain ⟨n, h1, _, h2⟩ := DataW.trod_int ht h
  exact ⟨n, h1, h2⟩
theorem R.bool (ht : P.underlying t = some .bool) (h : R P w t cs) : ∃ b, cs = [.bool b] := by
  obtain ⟨H, enc, spare, held, fuel, x, h⟩ := h
  obtain ⟨n, h1, _⟩ := DataW.trod_bool ht h
  exact ⟨n, h1⟩
theorem R.text (ht : P.underlying t = some .string) (h : R P w t cs) : ∃ s : ByteArray, cs = [.string s] ∧ s.size ≤ maxLen := by
  obtain ⟨H, enc, spare, held, fuel, x, h⟩ := h
  obtain ⟨n, h1, _, h2⟩ := DataW.trod_string ht h
  exact ⟨n, h1, h2⟩
theorem R.struct {fs : Array Field} (ht : P.underlying t = some (.struct fs)) (h : R P w t cs) : cs.length = P.cellsOf t ∧ ∀ (i : Nat) (f : Field), fs[i]? = some f → R P w f.type ((cs.drop f.offset).take (P.cellsOf f.type)) := by
  obtain ⟨H, enc, spare, held, fuel, x, h⟩ := h
  obtain ⟨xs, n, rfl, rfl, h1, h2, h3⟩ := DataW.trod_struct ht h
  refine ⟨h1, fun i f hf => ?_⟩
  have hi : i < xs.length := by rw [h2]; exact (Array.getElem?_eq_some_iff.1 hf).1
  exact ⟨H, enc, spare, held, n, xs[i], by rw [h3 i f hf, List.getElem?_eq_getElem hi]⟩
theorem R.array {n : Nat} (ht : P.underlying t = some (.array n e)) (h : R P w t cs) : cs.length = P.cellsOf t ∧ ∀ i, i < n → R P w e ((cs.drop (i * P.cellsOf e)).take (P.cellsOf e)) := by
  obtain ⟨H, enc, spare, held, fuel, x, h⟩ := h
  obtain ⟨xs, m, rfl, rfl, h1, h2, h3⟩ := DataW.trod_array ht h
  refine ⟨h1, fun i hi => ?_⟩
  have hi' : i < xs.length := by omega
  exact ⟨H, enc, spare, held, m, xs[i], by rw [h3 i hi, List.getElem?_eq_getElem hi']⟩
theorem cells_range {b o n : Nat} {cs' : List Value} (h : w.cells? 0 ⟨b, o, none⟩ n = some cs') : cs'.length = n ∧ w.rangeAt b o cs' := by
  obtain ⟨_, h1, h2⟩ := World.cells?_some h
  refine ⟨h1, fun j v hj => ?_⟩
  have hjl : j < n := by rw [← h1]; exact (List.getElem?_eq_some_iff.1 hj).1
  have := h2 j hjl
  rw [Addr.add_mid] at this
  rw [this, hj]
theorem R.slice {size : Nat} (ht : P.underlying t = some (.slice e)) (hs : P.cellsOf e = size) (hp : 0 < size) (h : R P w t cs) :
    ∃ ao len cap, cs = [.slice ao len cap] ∧ len ≤ cap ∧ cap ≤ maxLen ∧ (0 < len → ∃ b o, ao = some ⟨b, o, none⟩ ∧ b < w.heap.size ∧ ∀ i, i < len → ∃ cs', cs'.length = size ∧ w.rangeAt b (o + i * size) cs' ∧ R P w e cs') := by
  obtain ⟨H, enc, spare, held, fuel, x, h⟩ := h
  rcases DataW.trod_slice ht h with ⟨h0, _⟩ | ⟨a, len, cap, elems, rest, n, rfl, hcs, _, hb, hl, hm, hlen, hel, _⟩
  · exact ⟨none, 0, 0, h0, by omega, by simp, fun h => absurd h (by omega)⟩
  · refine ⟨some a, len, cap, hcs, hl, hm, fun h0 => ?_⟩
    obtain ⟨b, o, spot⟩ := a
    have hspot : spot = none := by
      have h1 := hel 0 h0
      rw [List.getElem?_eq_getElem (by omega)] at h1
      obtain ⟨cs', hc, _⟩ := Option.bind_eq_some_iff.1 h1
      rw [hs] at hc
      obtain ⟨_, g1, g2⟩ := World.cells?_some hc
      have g3 := g2 0 hp
      rw [List.getElem?_eq_getElem (by omega)] at g3
      have := World.cell?_spot g3
      simpa [Addr.add] using this
    subst hspot
    have hall : ∀ i, i < len → ∃ cs', cs'.length = size ∧ w.rangeAt b (o + i * size) cs' ∧ R P w e cs' := by
      intro i hi
      have h1 := hel i hi
      rw [List.getElem?_eq_getElem (by omega)] at h1
      obtain ⟨cs', hc, hx⟩ := Option.bind_eq_some_iff.1 h1
      rw [hs, Addr.add_mid] at hc
      obtain ⟨g1, g2⟩ := cells_range hc
      exact ⟨cs', g1, g2, H, enc, spare, held, n, _, hx⟩
    obtain ⟨cs', g1, g2, _⟩ := hall 0 h0
    refine ⟨b, o, rfl, ?_, hall⟩
    have := g2 0 _ (List.getElem?_eq_getElem (by omega))
    exact World.block_lt_of_cell? _ _ this
end

end Go.Proofs.Ytoffcoegghigoaa
