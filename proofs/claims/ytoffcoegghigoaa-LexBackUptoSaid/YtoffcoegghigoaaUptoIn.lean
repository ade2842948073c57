/- What came in, read by its type, within a bound of its bulk. Plain laws. -/
import Derived.Test.YtoffcoegghigoaaLexIn
import Derived.Test.YtoffcoegghigoaaRows
namespace Go.Proofs.Ytoffcoegghigoaa
open Go.RowKit

def RN (P : Program) (w : World) (t : TypeId) (cs : List Value) (N : Nat) : Prop :=
  ∃ (H : Type) (enc : TypeId × Value → H) (spare : Nat → Bool) (held : Bool) (fuel : Nat) (x : DataW H × List MemPlace), DataW.trod enc P w 0 spare held fuel t cs = some x ∧ Rows.uptoBulk x.1 ≤ N
theorem RN.all {P : Program} {w : World} {t : TypeId} {cs : List Value} {N : Nat} (h : RN P w t cs N) : R P w t cs := by
  obtain ⟨H, enc, spare, held, fuel, x, h, _⟩ := h
  exact ⟨H, enc, spare, held, fuel, x, h⟩
theorem bulk_part {H : Type} {d : DataW H} : ∀ {l : List (DataW H)}, d ∈ l → Rows.uptoBulk d ≤ Rows.uptoBulkAll l
  | x :: r, h => by
    simp only [Rows.uptoBulkAll]
    rcases List.mem_cons.1 h with rfl | h
    · omega
    · have := bulk_part h; omega
theorem RN.text {w : World} {cs : List Value} {N : Nat} (h : RN Try.prog w 9 cs N) : ∃ x : List UInt8, cs = [textV x] ∧ x.length ≤ N := by
  obtain ⟨H, enc, spare, held, fuel, x, h, hb⟩ := h
  obtain ⟨s, e, rfl, _⟩ := DataW.trod_string Try.underlying9 h
  simp only [Rows.uptoBulk] at hb
  exact ⟨s.data.toList, by rw [e, text_of], by omega⟩
theorem RN.slice {P : Program} {w : World} {t e : TypeId} {cs : List Value} {N : Nat} {size : Nat} (ht : P.underlying t = some (.slice e)) (hs : P.cellsOf e = size) (hp : 0 < size) (h : RN P w t cs N) :
    ∃ ao len cap, cs = [.slice ao len cap] ∧ len ≤ cap ∧ cap ≤ maxLen ∧ (0 < len → ∃ b o, ao = some ⟨b, o, none⟩ ∧ b < w.heap.size ∧ ∀ i, i < len → ∃ cs', cs'.length = size ∧ w.rangeAt b (o + i * size) cs' ∧ RN P w e cs' N) := by
  obtain ⟨H, enc, spare, held, fuel, x, h, hbk⟩ := h
  rcases DataW.trod_slice ht h with ⟨h0, _⟩ | ⟨a, len, cap, elems, rest, n, rfl, hcs, hx0, hb, hl, hm, hlen, hel, _⟩
  · exact ⟨none, 0, 0, h0, by omega, by simp, fun h => absurd h (by omega)⟩
  · refine ⟨some a, len, cap, hcs, hl, hm, fun h0 => ?_⟩
    obtain ⟨b, o, spot⟩ := a
    have hspot : spot = none := by
      have h1 := hel 0 h0
      rw [List.getElem?_eq_getElem (by omega)] at h1
      obtain ⟨cs', hc, _⟩ := Option.bind_eq_some_iff.1 h1
      rw [hs] at hc
      obtain ⟨_, g1, g2⟩ := World.cells?_some hc
      have g3 := g2 0 hp
      rw [List.getElem?_eq_getElem (by omega)] at g3
      have := World.cell?_spot g3
      simpa [Addr.add] using this
    subst hspot
    have hall : ∀ i, i < len → ∃ cs', cs'.length = size ∧ w.rangeAt b (o + i * size) cs' ∧ RN P w e cs' N := by
      intro i hi
      have h1 := hel i hi
      rw [List.getElem?_eq_getElem (by omega)] at h1
      obtain ⟨cs', hc, hx⟩ := Option.bind_eq_some_iff.1 h1
      rw [hs, Addr.add_mid] at hc
      obtain ⟨g1, g2⟩ := cells_range hc
      refine ⟨cs', g1, g2, H, enc, spare, held, n, _, hx, ?_⟩
      have hmem : (elems[i]'(by omega)).1 ∈ elems.map (fun x => x.fst) := List.mem_map_of_mem (List.getElem_mem _)
      have hle := bulk_part hmem
      rw [hx0] at hbk
      simp only [Rows.uptoBulk] at hbk
      omega
    obtain ⟨cs', g1, g2, _⟩ := hall 0 h0
    refine ⟨b, o, rfl, ?_, hall⟩
    have := g2 0 _ (List.getElem?_eq_getElem (by omega))
    exact World.block_lt_of_cell? _ _ this
theorem RN.strs {w : World} {cs : List Value} {N : Nat} (h : RN Try.prog w 23 cs N) : ∃ v l, cs = [v] ∧ StrsRO w v l ∧ l.length ≤ 9223372036854775807 ∧ ∀ x ∈ l, x.length ≤ N := by
  obtain ⟨ao, len, cap, rfl, h1, h2, h3⟩ := RN.slice Try.underlying23 (size := 1) (by kernel_rfl) (by omega) h
  have hm := max_len
  by_cases h0 : len = 0
  · subst h0
    exact ⟨_, [], rfl, ⟨ao, cap, rfl, by simp, fun h => absurd rfl h⟩, by simp, by simp⟩
  · obtain ⟨b, o, rfl, hb, hc⟩ := h3 (by omega)
    obtain ⟨l, hl, hx⟩ := list_of (p := fun i (x : List UInt8) => w.cell? ⟨b, o + i, none⟩ = some (textV x) ∧ x.length ≤ N) len (fun i hi => by
      obtain ⟨cs', g1, g2, g3⟩ := hc i hi
      obtain ⟨x, rfl, hx⟩ := RN.text g3
      have := g2 0 _ rfl
      exact ⟨x, by simpa using this, hx⟩)
    refine ⟨_, l, rfl, ⟨_, cap, by rw [hl], by omega, fun _ => ⟨b, o, rfl, hb, fun i hi => (hx i _ (List.getElem?_eq_getElem hi)).1⟩⟩, by omega, fun x hm => ?_⟩
    obtain ⟨i, hi⟩ := List.getElem?_of_mem hm
    exact (hx i x hi).2

end Go.Proofs.Ytoffcoegghigoaa
