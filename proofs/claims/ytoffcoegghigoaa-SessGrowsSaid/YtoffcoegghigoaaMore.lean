/- More laws of parts: an element of an owned row is laid anew; texts as cells. Plain laws, no program in sight. -/
import Derived.Test.YtoffcoegghigoaaStoreM
import Derived.Laws.OwnMore
import Derived.WideShapes
namespace Go.Proofs.Ytoffcoegghigoaa
open Go.RowKit

section
variable {S : Nat → Prop} {w0 w : World} {l : List SP}
/-- An element of an owned row is laid anew. -/
theorem St.rowSet (h : St S w0 w l) (i : Nat) {e : TypeId} {size g n cap : Nat} {xs : List Value} (hi : l[i]? = some (Row e size (.slice (some ⟨g, 0, none⟩) n cap) n xs)) (j : Nat) (u : Value) :
    St S w0 (w.setCell ⟨g, j, none⟩ u) (l.set i (Row e size (.slice (some ⟨g, 0, none⟩) n cap) n (xs.set j u))) := by
  obtain ⟨S1, h1, h2⟩ := h.turn i hi
  have hS : ∀ k, S1 k ↔ k = g := fun k => by rw [h1.2 k]; simp [Value.ownBlock, eq_comm]
  exact h2 (S1' := S1) (kept_set.mono (fun k _ e => (hS k).2 e)) ⟨(h1.1.stored j u).1, h1.2⟩ (fun _ a => .inl a)
theorem St.rowCell (h : St S w0 w l) (i j : Nat) {e : TypeId} {size g n cap : Nat} {xs : List Value} (hi : l[i]? = some (Row e size (.slice (some ⟨g, 0, none⟩) n cap) n xs)) {u : Value} (hu : xs[j]? = some u) : w.cell? ⟨g, j, none⟩ = some u := by
  have hr := h.row i hi
  have hj := (List.getElem?_eq_some_iff.1 hu).1
  rw [hr.cellAt j (by rw [← hr.1]; exact hj), hu]
theorem St.rowFree (h : St S w0 w l) (i j : Nat) {e : TypeId} {size g n cap : Nat} {xs : List Value} (hi : l[i]? = some (Row e size (.slice (some ⟨g, 0, none⟩) n cap) n xs)) : w.frozen? ⟨g, j, none⟩ = false := (h.row i hi).frozenAt j
theorem St.row_lt (h : St S w0 w l) (i : Nat) {e : TypeId} {size g n cap : Nat} {xs : List Value} (hi : l[i]? = some (Row e size (.slice (some ⟨g, 0, none⟩) n cap) n xs)) : g < w.heap.size := ((h.row i hi).lt g rfl).2
end

def textV (l : List UInt8) : Value := .string ⟨l.toArray⟩
def texts (l : List (List UInt8)) : List Value := l.map textV

def bools (l : List Bool) : List Value := l.map Value.bool
theorem bools_at {l : List Bool} {n k : Nat} (hl : l.length = n) (hk : k < n) : (bools l).toArray[k]? = some (.bool (l.getD k false)) := by
  simp [bools, List.getD, List.getElem?_eq_getElem (show k < l.length by omega)]
theorem bools_set {l : List Bool} (k : Nat) (x : Bool) : (bools l).toArray.setIfInBounds k (.bool x) = (bools (l.set k x)).toArray := by
  simp [bools, List.map_set]

theorem okWide_row {P : Program} {w : World} {r : Reach} {base : Nat} {t : TypeId} {v : Value} {n : Nat} {e : TypeId} (ht : P.underlying t = some (.array n e)) (h : Value.okWide P w r base t v) : ∃ cs, v = .agg cs ∧ cs.size = P.cellsOf t := by
  simp only [Value.okWide, ht] at h
  obtain ⟨cs, h1, h2, _⟩ := h
  exact ⟨cs, h1, h2⟩

end Go.Proofs.Ytoffcoegghigoaa
