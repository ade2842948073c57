/- What came in, read by its type, within the form's own reach (a slice's bytes). Laws over any program. -/
import Derived.Test.YtoffcoegghigoaaInM
import Derived.SizedLaws
namespace Go.Proofs.Ytoffcoegghigoaa
open Go.RowKit

def RZ (P : Program) (w : World) (t : TypeId) (cs : List Value) : Prop :=
  ∃ (H : Type) (enc : TypeId × Value → H) (spare : Nat → Bool) (held : Bool) (fuel : Nat) (x : DataW H × List MemPlace), DataW.trod enc P w 0 spare held fuel t cs = some x ∧ (x.1.weights P t).all (· ≤ reachBytes) = true
section
variable {P : Program} {w : World} {t e : TypeId} {cs : List Value}
theorem RZ.r (h : RZ P w t cs) : R P w t cs := by
  obtain ⟨H, enc, spare, held, fuel, x, h, _⟩ := h
  exact ⟨H, enc, spare, held, fuel, x, h⟩
theorem RZ.len (ht : P.underlying t = some (.slice e)) (h : RZ P w t cs) {ao : Option Addr} {len cap : Nat} (hc : cs = [.slice ao len cap]) : len * P.bytesOf e ≤ 140737488351232 := by
  obtain ⟨H, enc, spare, held, fuel, x, h, hz⟩ := h
  rcases DataW.trod_slice ht h with ⟨h0, _⟩ | ⟨a, len', cap', elems, rest, n, rfl, hcs, hx, hb, hl, hm, hlen, hel, _⟩
  · rw [hc] at h0
    simp only [List.cons.injEq, Value.slice.injEq, and_true] at h0
    rw [h0.2.1]
    omega
  · rw [hc] at hcs
    simp only [List.cons.injEq, Value.slice.injEq, and_true] at hcs
    rw [hcs.2.1]
    have h1 : ((elems.length + rest.length) * P.bytesOf e) ∈ x.1.weights P t := by
      rw [hx]
      simp [DataW.weights, ht]
    have h2 : (elems.length + rest.length) * P.bytesOf e ≤ 140737488351232 := of_decide_eq_true (List.all_eq_true.1 hz _ h1)
    have h3 : len' * P.bytesOf e ≤ (elems.length + rest.length) * P.bytesOf e := Nat.mul_le_mul_right _ (by omega)
    omega
end
end Go.Proofs.Ytoffcoegghigoaa
