/- What came in, read by its type, within a bound of its bulk: texts, structs, arrays, slices. Plain laws over any program. -/
import Derived.Test.YtoffcoegghigoaaInM
import Derived.Test.YtoffcoegghigoaaRows
namespace Go.Proofs.Ytoffcoegghigoaa
open Go.RowKit

def RB (P : Program) (w : World) (t : TypeId) (cs : List Value) (N : Nat) : Prop :=
  ∃ (H : Type) (enc : TypeId × Value → H) (spare : Nat → Bool) (held : Bool) (fuel : Nat) (x : DataW H × List MemPlace), DataW.trod enc P w 0 spare held fuel t cs = some x ∧ Rows.uptoBulk x.1 ≤ N
theorem RB.all {P : Program} {w : World} {t : TypeId} {cs : List Value} {N : Nat} (h : RB P w t cs N) : R P w t cs := by
  obtain ⟨H, enc, spare, held, fuel, x, h, _⟩ := h
  exact ⟨H, enc, spare, held, fuel, x, h⟩
theorem bulk_pos {H : Type} : ∀ d : DataW H, 1 ≤ Rows.uptoBulk d
  | .lit l => by cases l <;> simp [Rows.uptoBulk]
  | .nil => by simp [Rows.uptoBulk]
  | .ptr d => by simp [Rows.uptoBulk]
  | .slice _ _ => by simp [Rows.uptoBulk]
  | .agg _ => by simp [Rows.uptoBulk]
  | .iface _ _ => by simp [Rows.uptoBulk]
  | .map _ => by simp [Rows.uptoBulk]
  | .held _ => by simp [Rows.uptoBulk]
theorem bulk_in {H : Type} {d : DataW H} : ∀ {l : List (DataW H)}, d ∈ l → Rows.uptoBulk d ≤ Rows.uptoBulkAll l
  | x :: r, h => by
    simp only [Rows.uptoBulkAll]
    rcases List.mem_cons.1 h with rfl | h
    · omega
    · have := bulk_in h; omega
theorem bulk_len {H : Type} : ∀ l : List (DataW H), l.length ≤ Rows.uptoBulkAll l
  | [] => by simp [Rows.uptoBulkAll]
  | x :: r => by
    have := bulk_len r
    have := bulk_pos x
    simp only [Rows.uptoBulkAll, List.length_cons]
    omega

section
variable {P : Program} {w : World} {t e : TypeId} {cs : List Value} {N : Nat}
theorem RB.int {k : IntKind} (ht : P.underlying t = some (.int k)) (h : RB P w t cs N) : ∃ n, cs = [.int k n] ∧ (Lit.int k n).wf = true := h.all.int ht
theorem RB.bool (ht : P.underlying t = some .bool) (h : RB P w t cs N) : ∃ b, cs = [.bool b] := h.all.bool ht
theorem RB.text (ht : P.underlying t = some .string) (h : RB P w t cs N) : ∃ s : ByteArray, cs = [.string s] ∧ s.size ≤ N := by
  obtain ⟨H, enc, spare, held, fuel, x, h, hb⟩ := h
  obtain ⟨s, e, rfl, _⟩ := DataW.trod_string ht h
  simp only [Rows.uptoBulk] at hb
  have : s.data.toList.length = s.size := Array.length_toList
  exact ⟨s, e, by omega⟩
theorem RB.struct {fs : Array Field} (ht : P.underlying t = some (.struct fs)) (h : RB P w t cs N) : cs.length = P.cellsOf t ∧ ∀ (i : Nat) (f : Field), fs[i]? = some f → RB P w f.type ((cs.drop f.offset).take (P.cellsOf f.type)) N := by
  obtain ⟨H, enc, spare, held, fuel, x, h, hb⟩ := h
  obtain ⟨xs, n, rfl, hx, h1, h2, h3⟩ := DataW.trod_struct ht h
  refine ⟨h1, fun i f hf => ?_⟩
  have hi : i < xs.length := by rw [h2]; exact (Array.getElem?_eq_some_iff.1 hf).1
  refine ⟨H, enc, spare, held, n, xs[i], by rw [h3 i f hf, List.getElem?_eq_getElem hi], ?_⟩
  have hmem : xs[i].1 ∈ xs.map (fun x => x.fst) := List.mem_map_of_mem (List.getElem_mem _)
  have hle := bulk_in hmem
  rw [hx] at hb
  simp only [Rows.uptoBulk] at hb
  omega
theorem RB.field {fs : Array Field} (ht : P.underlying t = some (.struct fs)) (h : RB P w t cs N) (i : Nat) {f : Field} (hf : fs[i]? = some f) {o n : Nat} {e : TypeId} (ho : f.offset = o) (he : f.type = e) (hn : P.cellsOf e = n) :
    RB P w e ((cs.drop o).take n) N := by
  subst ho he hn
  exact (RB.struct ht h).2 i f hf
theorem RB.array {n : Nat} (ht : P.underlying t = some (.array n e)) (h : RB P w t cs N) : cs.length = P.cellsOf t ∧ ∀ i, i < n → RB P w e ((cs.drop (i * P.cellsOf e)).take (P.cellsOf e)) N := by
  obtain ⟨H, enc, spare, held, fuel, x, h, hb⟩ := h
  obtain ⟨xs, m, rfl, hx, h1, h2, h3⟩ := DataW.trod_array ht h
  refine ⟨h1, fun i hi => ?_⟩
  have hi' : i < xs.length := by omega
  refine ⟨H, enc, spare, held, m, xs[i], by rw [h3 i hi, List.getElem?_eq_getElem hi'], ?_⟩
  have hmem : xs[i].1 ∈ xs.map (fun x => x.fst) := List.mem_map_of_mem (List.getElem_mem _)
  have hle := bulk_in hmem
  rw [hx] at hb
  simp only [Rows.uptoBulk] at hb
  omega
theorem RB.item1 {n : Nat} (ht : P.underlying t = some (.array n e)) (he : P.cellsOf e = 1) (h : RB P w t cs N) (i : Nat) (hi : i < n) {c : Value} (hc : cs[i]? = some c) : RB P w e [c] N := by
  have h1 := (RB.array ht h).2 i hi
  rw [he, Nat.mul_one] at h1
  obtain ⟨hlt, rfl⟩ := List.getElem?_eq_some_iff.1 hc
  rwa [List.drop_eq_getElem_cons hlt, List.take_succ_cons, List.take_zero] at h1
theorem RB.slice {size : Nat} (ht : P.underlying t = some (.slice e)) (hs : P.cellsOf e = size) (hp : 0 < size) (h : RB P w t cs N) :
    ∃ ao len cap, cs = [.slice ao len cap] ∧ len ≤ cap ∧ len ≤ N ∧ (0 < len → ∃ b o, ao = some ⟨b, o, none⟩ ∧ b < w.heap.size ∧ ∀ i, i < len → ∃ cs', cs'.length = size ∧ w.rangeAt b (o + i * size) cs' ∧ RB P w e cs' N) := by
  obtain ⟨H, enc, spare, held, fuel, x, h, hbk⟩ := h
  rcases DataW.trod_slice ht h with ⟨h0, _⟩ | ⟨a, len, cap, elems, rest, n, rfl, hcs, hx0, hb, hl, hm, hlen, hel, _⟩
  · exact ⟨none, 0, 0, h0, by omega, by simp, fun h => absurd h (by omega)⟩
  · have hbl := bulk_len (elems.map (fun x => x.fst))
    rw [List.length_map] at hbl
    rw [hx0] at hbk
    simp only [Rows.uptoBulk] at hbk
    refine ⟨some a, len, cap, hcs, hl, by omega, fun h0 => ?_⟩
    obtain ⟨b, o, spot⟩ := a
    have hspot : spot = none := by
      have h1 := hel 0 h0
      rw [List.getElem?_eq_getElem (by omega)] at h1
      obtain ⟨cs', hc, _⟩ := Option.bind_eq_some_iff.1 h1
      rw [hs] at hc
      obtain ⟨_, g1, g2⟩ := World.cells?_some hc
      have g3 := g2 0 hp
      rw [List.getElem?_eq_getElem (by omega)] at g3
      have := World.cell?_spot g3
      simpa [Addr.add] using this
    subst hspot
    have hall : ∀ i, i < len → ∃ cs', cs'.length = size ∧ w.rangeAt b (o + i * size) cs' ∧ RB P w e cs' N := by
      intro i hi
      have h1 := hel i hi
      rw [List.getElem?_eq_getElem (by omega)] at h1
      obtain ⟨cs', hc, hx⟩ := Option.bind_eq_some_iff.1 h1
      rw [hs, Addr.add_mid] at hc
      obtain ⟨g1, g2⟩ := cells_range hc
      refine ⟨cs', g1, g2, H, enc, spare, held, n, _, hx, ?_⟩
      have hmem : (elems[i]'(by omega)).1 ∈ elems.map (fun x => x.fst) := List.mem_map_of_mem (List.getElem_mem _)
      have hle := bulk_in hmem
      omega
    obtain ⟨cs', g1, g2, _⟩ := hall 0 h0
    refine ⟨b, o, rfl, ?_, hall⟩
    have := g2 0 _ (List.getElem?_eq_getElem (by omega))
    exact World.block_lt_of_cell? _ _ this
/-- A slice whose elements each read as something. -/
theorem RB.list {α : Type} {p : List Value → α → Prop} {size : Nat} (ht : P.underlying t = some (.slice e)) (hs : P.cellsOf e = size) (hp : 0 < size) (hr : ∀ cs', RB P w e cs' N → ∃ x, p cs' x) (h : RB P w t cs N) :
    ∃ ao cap, ∃ l : List α, cs = [.slice ao l.length cap] ∧ l.length ≤ cap ∧ l.length ≤ N ∧
      (l ≠ [] → ∃ b o, ao = some ⟨b, o, none⟩ ∧ b < w.heap.size ∧ ∀ i x, l[i]? = some x → ∃ cs', cs'.length = size ∧ w.rangeAt b (o + i * size) cs' ∧ p cs' x) := by
  obtain ⟨ao, len, cap, rfl, h1, h2, h3⟩ := RB.slice ht hs hp h
  by_cases h0 : len = 0
  · subst h0
    exact ⟨ao, cap, [], rfl, by simp, by simp, fun h => absurd rfl h⟩
  · obtain ⟨b, o, rfl, hb, hc⟩ := h3 (by omega)
    obtain ⟨l, hl, hx⟩ := list_of (p := fun i x => ∃ cs', cs'.length = size ∧ w.rangeAt b (o + i * size) cs' ∧ p cs' x) len (fun i hi => by
      obtain ⟨cs', g1, g2, g3⟩ := hc i hi
      obtain ⟨x, hx⟩ := hr cs' g3
      exact ⟨x, cs', g1, g2, hx⟩)
    exact ⟨_, cap, l, by rw [hl], by omega, by omega, fun _ => ⟨b, o, rfl, hb, hx⟩⟩
/-- Each cell of an array of one-cell elements. -/
theorem R.ones {n : Nat} (ht : P.underlying t = some (.array n e)) (he : P.cellsOf e = 1) {k : IntKind} (hk : P.underlying e = some (.int k)) (hn : P.cellsOf t = n) (h : R P w t cs) : ∀ u ∈ cs, ∃ n, u = .int k n := by
  intro u hu
  obtain ⟨i, hi⟩ := List.getElem?_of_mem hu
  obtain ⟨h0, h1⟩ := R.array ht h
  have hlt := (List.getElem?_eq_some_iff.1 hi).1
  have h2 := h1 i (by omega)
  rw [he, Nat.mul_one, List.drop_eq_getElem_cons hlt, List.take_succ_cons, List.take_zero] at h2
  obtain ⟨m, e, _⟩ := R.int hk h2
  simp only [List.cons.injEq, and_true] at e
  exact ⟨m, by rw [← e, (List.getElem?_eq_some_iff.1 hi).2]⟩
theorem int_bounds {n : Int} (h : (Lit.int .i64 n).wf = true) : -9223372036854775808 ≤ n ∧ n ≤ 9223372036854775807 := by
  simp only [Lit.wf, Bool.and_eq_true, decide_eq_true_eq] at h
  simp [IntKind.min, IntKind.max, IntKind.signed, IntKind.bits] at h
  exact h
end

end Go.Proofs.Ytoffcoegghigoaa
