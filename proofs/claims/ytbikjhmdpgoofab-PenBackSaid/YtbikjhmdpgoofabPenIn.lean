/- The ops that came in for the pen's statements. Plain laws. -/
import Derived.Test.YtbikjhmdpgoofabPenA
import Derived.Test.YtbikjhmdpgoofabInM
import Derived.Test.YtbikjhmdpgoofabMore
namespace Go.Proofs.Ytbikjhmdpgoofab
open Go.RowKit

/-- What came in can be read later. -/
theorem BytesRO.later {w w' : World} {v : Value} {bs : List UInt8} (hv : BytesRO (fun _ => False) w v bs) (hk : Kept (fun _ => False) w w') : BytesRO (fun _ => False) w' v bs := by
  obtain ⟨ad, cap, e1, e2, e3⟩ := hv
  refine ⟨ad, cap, e1, e2, fun hl => ?_⟩
  obtain ⟨b, o, g1, g2, _, g4⟩ := e3 hl
  exact ⟨b, o, g1, Nat.lt_of_lt_of_le g2 hk.size, id, fun i hi => (World.cell?_of_block (w := w) (hk.block b g2 id)).trans (g4 i hi)⟩
structure POp where
  kind : Int
  n : Int
  Bv : Value
  B : List UInt8
def POp.Ok (w : World) (x : POp) : Prop := BytesRO (fun _ => False) w x.Bv x.B ∧ x.B.length ≤ 9223372036854775807 ∧ (-9223372036854775808 ≤ x.n ∧ x.n ≤ 9223372036854775807) ∧ (-9223372036854775808 ≤ x.kind ∧ x.kind ≤ 9223372036854775807)
def popCells (x : POp) : List Value := [.int .i64 x.kind, .int .i64 x.n, x.Bv]
def POpsRO (w : World) (v : Value) (l : List POp) : Prop :=
  ∃ ao cap, v = .slice ao l.length cap ∧ l.length ≤ 9223372036854775807 ∧ (∀ x ∈ l, x.Ok w) ∧ (l ≠ [] → ∃ b o, ao = some ⟨b, o, none⟩ ∧ b < w.heap.size ∧ ∀ i x, l[i]? = some x → w.rangeAt b (o + i * 3) (popCells x))
theorem three {l : List Value} (h : l.length = 3) : ∃ a b c, l = [a, b, c] := by
  match l, h with
  | [a, b, c], _ => exact ⟨a, b, c, rfl⟩
theorem pop_read {w : World} {cs : List Value} (h : R Try.prog w 57 cs) : ∃ x : POp, cs = popCells x ∧ x.Ok w := by
  have hl : cs.length = 3 := (R.struct Try.underlying57 h).1.trans (by kernel_rfl)
  obtain ⟨c0, c1, c2, rfl⟩ := three hl
  have r0 : R Try.prog w 3 [c0] := R.field Try.underlying57 h 0 rfl (o := 0) (n := 1) rfl rfl (by kernel_rfl)
  have r1 : R Try.prog w 3 [c1] := R.field Try.underlying57 h 1 rfl (o := 1) (n := 1) rfl rfl (by kernel_rfl)
  have r2 : R Try.prog w 29 [c2] := R.field Try.underlying57 h 2 rfl (o := 2) (n := 1) rfl rfl (by kernel_rfl)
  obtain ⟨n0, e0, h0⟩ := R.int Try.underlying3 r0
  obtain ⟨n1, e1, h1⟩ := R.int Try.underlying3 r1
  obtain ⟨v2, l2, e2, h2, h2'⟩ := R.bytes Try.underlying29 Try.underlying5 (by kernel_rfl) r2
  simp only [List.cons.injEq, and_true] at e0 e1 e2
  subst e0 e1 e2
  simp only [Lit.wf, Bool.and_eq_true, decide_eq_true_eq] at h0 h1
  exact ⟨⟨n0, n1, c2, l2⟩, rfl, h2, h2', h1, h0⟩
theorem pops_read {w : World} {cs : List Value} (h : R Try.prog w 52 cs) : ∃ v l, cs = [v] ∧ POpsRO w v l := by
  obtain ⟨ao, cap, l, rfl, h1, h2, h3⟩ := R.list (p := fun cs (x : POp) => cs = popCells x ∧ x.Ok w) Try.underlying52 (size := 3) (by kernel_rfl) (by omega) (fun cs' h => pop_read h) h
  refine ⟨_, l, rfl, ao, cap, rfl, h2, fun x hx => ?_, fun hl => ?_⟩
  · obtain ⟨b, o, _, _, hc⟩ := h3 (fun h => by subst h; simp at hx)
    obtain ⟨i, hi⟩ := List.getElem?_of_mem hx
    obtain ⟨cs', _, _, _, g⟩ := hc i x hi
    exact g
  · obtain ⟨b, o, rfl, hb, hc⟩ := h3 hl
    refine ⟨b, o, rfl, hb, fun i x hi => ?_⟩
    obtain ⟨cs', _, g2, rfl, _⟩ := hc i x hi
    exact g2
/-- An op's cells, in a later world. -/
theorem pop_cells {w w' : World} {b o i : Nat} {x : POp} (h : w.rangeAt b (o + i * 3) (popCells x)) (hb : w'.heap[b]? = w.heap[b]?) :
    w'.cell? ⟨b, o + i * 3, none⟩ = some (.int .i64 x.kind) ∧ w'.cell? ⟨b, o + i * 3 + 1, none⟩ = some (.int .i64 x.n) ∧ w'.cell? ⟨b, o + i * 3 + 2, none⟩ = some x.Bv :=
  ⟨(World.cell?_of_block hb).trans (h 0 _ rfl), (World.cell?_of_block hb).trans (h 1 _ rfl), (World.cell?_of_block hb).trans (h 2 _ rfl)⟩

end Go.Proofs.Ytbikjhmdpgoofab
