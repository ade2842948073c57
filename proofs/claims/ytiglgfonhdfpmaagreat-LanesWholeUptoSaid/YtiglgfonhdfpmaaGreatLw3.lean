import Derived.Test.YtiglgfonhdfpmaaGreatLw1
import Derived.Test.YtiglgfonhdfpmaaGreatLw2
import Derived.Lib.SliceRun
import Derived.Shelf.Small.Strs
import Derived.Shelf.Small.Wraps
import Derived.Deep.DeepAppendWide
import Derived.ProofKit
import Derived.OpenShut
import Derived.Deep.MidRow
import Derived.Test.YtiglgfonhdfpmaaGreatRows
/- slices.Clone, IndexFunc, DeleteFunc at items with clock's predicate; clock's events. Condition: so many items. -/
set_option linter.unusedVariables false
set_option linter.unusedSimpArgs false
namespace Go.Proofs.YtiglgfonhdfpmaaGreat
open Go.RowKit

set_option maxHeartbeats 1000000 in
set_option maxRecDepth 100000 in
theorem itms_clone {v : Value} {l : List Itm} {w : World} (hv : ItmsRO w v l) (hl : l.length ≤ 3518437208880) :
    Calls Tryz.prog 86 #[v] w fun e w' => ∃ v', e = .returned v' ∧ St (fun _ => False) w w' [Row 56 4 v' l.length (itms l)] := by
  obtain ⟨ad, cap, rfl, h0, hcell⟩ := hv.cells
  cases ad with
  | none =>
    obtain rfl := h0 rfl
    have hq := fun w => Lib.run_eql_slice_nil (P := Tryz.prog) w 41 56 none 0 cap 0 0 Tryz.underlying41
    go_enter Tryz.func86, Tryz.ntmps86
    go_wp2
    go_ret
    exact ⟨_, rfl, (St.nil _ w).row_nil 56 4⟩
  | some a =>
    have hnew : St (fun _ => False) w (w.alloc (.cells #[] 56)) [Row 56 4 (.slice (some ⟨w.heap.size, 0, none⟩) 0 0) 0 []] := by
      refine ⟨(Kept.refl _ _).alloc _, fun k => k = w.heap.size, ⟨?_, fun k => by simp [Value.ownBlock, eq_comm]⟩, fun k h => .inr (by omega), trivial⟩
      exact World.ownsRow_lit w #[] 0 (Nat.zero_le _) (by simp [maxLen]) rfl
    have hnews : ∀ p, some a = some p → ∀ j u, (itms l)[j]? = some u → (w.alloc (.cells #[] 56)).cell? (p.add j) = some u := fun p hp j u hj => Lib.cell?_alloc_some _ (hcell p hp j u hj)
    have hlen := itms_len l
    have hb : (0 + l.length) * 40 ≤ 140737488355328 := by omega
    have h1 := itms_one1 l
    clear hcell h0
    have hq := fun w => Lib.run_eql_slice_nil (P := Tryz.prog) w 41 56 (some a) l.length cap 0 0 Tryz.underlying41
    go_enter Tryz.func86, Tryz.ntmps86
    go_wp2_with (at_builtin; go_must (refine St.list_add hnew 0 rfl rfl (.tmp 5) (.tmp 6) 41 rfl Tryz.underlying41 Tryz.info56 (by decide) rfl (itms l) rfl hlen (by intro h; cases h) hnews h1 hb ?_; intro v' w1 H1 hz))
    go_ret
    exact ⟨v', rfl, by simpa using H1⟩

end Go.Proofs.YtiglgfonhdfpmaaGreat

/- slices.DeleteFunc at items with clock's predicate; clock's events. Condition: so many items. -/
set_option linter.unusedVariables false
set_option linter.unusedSimpArgs false
namespace Go.Proofs.YtiglgfonhdfpmaaGreat
open Go.RowKit

theorem run_storeItm {w : World} {a : Act} {dst : Option Tmp} {ty' : TypeId} {pos : String} {after : Array Edge} {g : Option (Nat × Bool)} {x y : Operand}
    (hp : plainPtr (a.eval x) = true) (hr : mayCells w (blockOf (a.eval x)) (placeOf (a.eval x)) 4 = true) (hv : isAggV (a.eval y) = true) (hs : (aggOf (a.eval y)).size = 4) (h1 : allOne (aggOf (a.eval y)) = true) :
    (execOp a.eval ⟨dst, .store 56 x y, ty', pos, after, g⟩).run Tryz.prog w = .ok .skip (w.setCells (blockOf (a.eval x)) (placeOf (a.eval x)) (aggOf (a.eval y)).toList) :=
  run_store_mid (by kernel_rfl) hp hr hv hs h1

theorem run_clear_any {P : Program} (w : World) (t e ty : TypeId) (z : Value) (ht : P.underlying t = some (.slice e)) (hv : ∀ w, (zeroValue e).run P w = .ok z w) (b o n c m : Nat) (hn : 0 < n)
    (hm : (Builtin.zeroCells z.cells n).size = m) (hc : mayCells w b o m = true) (h1 : ∀ v ∈ (Builtin.zeroCells z.cells n).toList, v.oneCell' = true) :
    (Builtin.clear_ #[t] ty #[.slice (some ⟨b, o, none⟩) n c]).run P w = .ok (.tuple #[]) (w.setCells b o (Builtin.zeroCells z.cells n).toList) := by
  have hth := mayCells_there hc
  have hst := run_storeCells_cells (P := P) b o (Builtin.zeroCells z.cells n).toList 0 w (fun j hj => by simpa using (hth j (by rw [← hm]; simpa using hj)).1) (fun j hj => by simpa using (hth j (by rw [← hm]; simpa using hj)).2) h1
  simp only [Nat.add_zero] at hst
  obtain ⟨k, rfl⟩ : ∃ k, n = k + 1 := ⟨n - 1, by omega⟩
  simp [Builtin.clear_, run_underlying ht, hv, hst]
theorem take_set1 {α : Type} {L : List α} {i : Nat} (x : α) (hi : i < L.length) : (L.set i x).take (i + 1) = L.take i ++ [x] := by
  rw [take_snoc' (l := L.set i x) (x := x) (by simp [hi]), List.take_set, List.set_eq_of_length_le (by rw [List.length_take]; omega)]
section
end
end Go.Proofs.YtiglgfonhdfpmaaGreat

/- Windows in rows: laws. -/
set_option linter.unusedVariables false
set_option linter.unusedSimpArgs false
namespace Go.Proofs.YtiglgfonhdfpmaaGreat
open Go.RowKit

abbrev wdC (x : Wd) : Array Value := #[textV x.key, .int .i64 x.frm, .int .i64 x.to]
abbrev wdV (x : Wd) : Value := .agg (wdC x)
theorem Tryz.info61 : (Tryz.prog.info? 61).map (fun i => (i.zero, i.size, i.bytes)) = some (some (.agg #[.string ⟨#[]⟩, .int .i64 0, .int .i64 0]), 3, 32) := by kernel_rfl
def wds (l : List Wd) : List Value := (l.map fun x => (wdC x).toList).flatten
theorem wds_app (l m : List Wd) : wds (l ++ m) = wds l ++ wds m := by simp [wds]
theorem wds_one (x : Wd) : wds [x] = [textV x.key, .int .i64 x.frm, .int .i64 x.to] := by simp [wds]
theorem wds_len (l : List Wd) : (wds l).length = l.length * 3 := by
  induction l with
  | nil => rfl
  | cons x l ih => simp only [wds, List.map_cons, List.flatten_cons, List.length_append, List.length_cons] at ih ⊢; rw [ih]; simp; omega
theorem wds_get {l : List Wd} {i j : Nat} {x : Wd} {v : Value} (hi : l[i]? = some x) (hj : (wdC x).toList[j]? = some v) : (wds l)[i * 3 + j]? = some v := by
  have hk : ∀ y ∈ l.map fun x => (wdC x).toList, y.length = 3 := by
    intro y hy
    obtain ⟨x, _, rfl⟩ := List.mem_map.1 hy
    rfl
  have hi2 : (l.map fun x => (wdC x).toList)[i]? = some (wdC x).toList := by rw [List.getElem?_map, hi]; rfl
  have hj4 : j < 3 := (List.getElem?_eq_some_iff.1 hj).1
  exact (flat_get hk hi2 hj4).trans hj
theorem wds_one1 (l : List Wd) : ∀ u ∈ wds l, u.oneCell' = true := by
  intro u hu
  obtain ⟨y, hy, hu⟩ := List.mem_flatten.1 hu
  obtain ⟨x, _, rfl⟩ := List.mem_map.1 hy
  simp at hu
  rcases hu with rfl | rfl | rfl <;> rfl

/-- Items that can be read. -/
def WdsRO (w : World) (v : Value) (l : List Wd) : Prop :=
  ∃ ad cap, v = .slice ad l.length cap ∧ l.length ≤ cap ∧ (∀ x ∈ l, x.fits) ∧ (l ≠ [] → ∃ b o, ad = some ⟨b, o, none⟩ ∧ b < w.heap.size ∧ ∀ i x, l[i]? = some x → w.rangeAt b (o + i * 3) (wdC x).toList)
theorem WdsRO.later {w w' : World} {v : Value} {l : List Wd} (hv : WdsRO w v l) (hk : Kept (fun _ => False) w w') : WdsRO w' v l := by
  obtain ⟨ad, cap, e1, e2, e3, e4⟩ := hv
  refine ⟨ad, cap, e1, e2, e3, fun hl => ?_⟩
  obtain ⟨b, o, g1, g2, g4⟩ := e4 hl
  exact ⟨b, o, g1, Nat.lt_of_lt_of_le g2 hk.size, fun i x hi j v hj => (World.cell?_of_block (w := w) (hk.block b g2 id)).trans (g4 i x hi j v hj)⟩
theorem wd_cells {w w' : World} {b o i : Nat} {x : Wd} (h : w.rangeAt b (o + i * 3) (wdC x).toList) (hb : w'.heap[b]? = w.heap[b]?) :
    w'.cell? ⟨b, o + i * 3, none⟩ = some (textV x.key) ∧ w'.cell? ⟨b, o + i * 3 + 1, none⟩ = some (.int .i64 x.frm) ∧ w'.cell? ⟨b, o + i * 3 + 2, none⟩ = some (.int .i64 x.to) :=
  ⟨(World.cell?_of_block hb).trans (h 0 _ rfl), (World.cell?_of_block hb).trans (h 1 _ rfl), (World.cell?_of_block hb).trans (h 2 _ rfl)⟩
theorem wds_own {w : World} {v : Value} {n : Nat} {l : List Wd} (h : w.ownsRow 0 61 3 v n (wds l)) (hf : ∀ x ∈ l, x.fits) : WdsRO w v l := by
  have hn : n = l.length := by
    have := h.1
    have e := wds_len l
    omega
  subst hn
  rcases own_shape h with ⟨rfl, h0⟩ | ⟨g, cap, rfl, hc, hg⟩
  · obtain rfl : l = [] := List.eq_nil_of_length_eq_zero h0
    exact ⟨none, 0, rfl, Nat.le_refl _, by simp, fun h => absurd rfl h⟩
  · refine ⟨_, cap, rfl, hc, hf, fun _ => ⟨g, 0, rfl, hg, fun i x hi j z hj => ?_⟩⟩
    show w.cell? ⟨g, 0 + i * 3 + j, none⟩ = some z
    rw [Nat.zero_add]
    exact own_cell h (wds_get hi hj)
/-- All cells of readable items, one by one. -/
theorem WdsRO.cells {w : World} {v : Value} {l : List Wd} (hv : WdsRO w v l) : ∃ ad cap, v = .slice ad l.length cap ∧ (ad = none → l = []) ∧ ∀ p, ad = some p → ∀ j u, (wds l)[j]? = some u → w.cell? (p.add j) = some u := by
  obtain ⟨ad, cap, rfl, _, _, h⟩ := hv
  refine ⟨ad, cap, rfl, fun e => ?_, fun p hp j u hj => ?_⟩
  · refine Classical.byContradiction fun hl => ?_
    obtain ⟨b, o, e2, _⟩ := h hl
    rw [e] at e2
    cases e2
  · by_cases hl : l = []
    · subst hl; simp [wds] at hj
    · obtain ⟨b, o, e2, _, h4⟩ := h hl
      rw [hp] at e2
      obtain rfl := Option.some.inj e2
      have hlt := (List.getElem?_eq_some_iff.1 hj).1
      rw [wds_len] at hlt
      obtain ⟨x, hx⟩ : ∃ x, l[j / 3]? = some x := ⟨_, List.getElem?_eq_getElem (by omega)⟩
      have hm : j % 3 < (wdC x).toList.length := by show j % 3 < 3; omega
      have hj2 := wds_get hx (List.getElem?_eq_getElem hm)
      rw [show j / 3 * 3 + j % 3 = j by omega, hj] at hj2
      rw [Addr.add_lit]
      have := h4 (j / 3) x hx (j % 3) u ((List.getElem?_eq_getElem hm).trans hj2.symm)
      rw [show o + j / 3 * 3 + j % 3 = o + j by omega] at this
      exact this

theorem row_wds {w : World} {base g n cap : Nat} {L : List Wd} {e : TypeId} (h : w.ownsRow base e 3 (.slice (some ⟨g, 0, none⟩) n cap) n (wds L)) {j : Nat} {x : Wd} (hx : L[j]? = some x) :
    w.cell? ⟨g, j * 3, none⟩ = some (textV x.key) ∧ w.cell? ⟨g, j * 3 + 1, none⟩ = some (.int .i64 x.frm) ∧ w.cell? ⟨g, j * 3 + 2, none⟩ = some (.int .i64 x.to) :=
  ⟨own_cell h (wds_get (j := 0) hx rfl), own_cell h (wds_get (j := 1) hx rfl), own_cell h (wds_get (j := 2) hx rfl)⟩
end Go.Proofs.YtiglgfonhdfpmaaGreat

/- strings.Compare and cmp.Compare at int as the library's shelf lays them at this program (the text was written by the kit's lay-shelf.mjs and lay-plain.mjs). -/
set_option linter.unusedVariables false
set_option linter.unusedSimpArgs false
namespace Go.Proofs.YtiglgfonhdfpmaaGreat
open Go.Shelf
def scmpRen : Go.Shelf.Ren := ⟨fun | 106 => 144 | 213 => 200 | 265 => 257 | n => n, fun | 9 => 9 | 3 => 3 | n => n, fun | n => n⟩
theorem scmpLays : Go.Proofs.Lays.n106 Tryz.prog scmpRen := {
  mixed := by kernel_rfl
  f106 := Tryz.func144.trans (congrArg some (by kernel_rfl))
  f213 := Tryz.func200.trans (congrArg some (by kernel_rfl))
  f265 := Tryz.func257.trans (congrArg some (by kernel_rfl))
  t3 := Tryz.underlying3
  a3 := Tryz.isAgg3
  z3 := Tryz.sizeOf3
  v3 := Tryz.zeroValue3
  t9 := Tryz.underlying9
  a9 := Tryz.isAgg9
  z9 := Tryz.sizeOf9
  v9 := Tryz.zeroValue9 }
def icmpRen : Go.Shelf.Ren := ⟨fun | 122 => 145 | 215 => 201 | n => n, fun | 3 => 3 | 4 => 4 | n => n, fun | n => n⟩
theorem icmpLays : Go.Proofs.Lays.n122 Tryz.prog icmpRen := {
  mixed := by kernel_rfl
  f122 := Tryz.func145.trans (congrArg some (by kernel_rfl))
  f215 := Tryz.func201.trans (congrArg some (by kernel_rfl))
  t3 := Tryz.underlying3
  a3 := Tryz.isAgg3
  z3 := Tryz.sizeOf3
  v3 := Tryz.zeroValue3
  t4 := Tryz.underlying4
  a4 := Tryz.isAgg4
  z4 := Tryz.sizeOf4
  v4 := Tryz.zeroValue4 }
open Go.RowKit in
theorem strings_Compare (a b : ByteArray) (w : World) :
    Calls Tryz.prog 144 #[.string a, .string b] w fun e w' => e = .returned (.int .i64 (Lib.compareBytes a.data.toList b.data.toList)) ∧ w' = w := Any.strings_Compare scmpLays a b w
open Go.RowKit in
theorem cmp_Compare_int (x y : Int) (w : World) :
    Calls Tryz.prog 145 #[.int .i64 x, .int .i64 y] w fun e w' => e = .returned (.int .i64 (Lib.compareInt x y)) ∧ w' = w := Any.cmp_Compare_int icmpLays x y w
end Go.Proofs.YtiglgfonhdfpmaaGreat

/- The document's Marks: what a clock gives, time by time. Conditions: so many times. -/
set_option linter.unusedVariables false
set_option linter.unusedSimpArgs false
namespace Go.Proofs.YtiglgfonhdfpmaaGreat
open Go.RowKit

theorem Tryz.info3 : (Tryz.prog.info? 3).map (fun i => (i.zero, i.size, i.bytes)) = some (some (.int .i64 0), 1, 8) := by kernel_rfl
def IntsRO (w : World) (v : Value) (l : List Int) : Prop :=
  ∃ ad cap, v = .slice ad l.length cap ∧ l.length ≤ cap ∧ (∀ x ∈ l, -9223372036854775808 ≤ x ∧ x ≤ 9223372036854775807) ∧ (l ≠ [] → ∃ b o, ad = some ⟨b, o, none⟩ ∧ b < w.heap.size ∧ ∀ i x, l[i]? = some x → w.cell? ⟨b, o + i, none⟩ = some (.int .i64 x))
theorem IntsRO.later {w w' : World} {v : Value} {l : List Int} (hv : IntsRO w v l) (hk : Kept (fun _ => False) w w') : IntsRO w' v l := by
  obtain ⟨ad, cap, e1, e2, e3, e4⟩ := hv
  refine ⟨ad, cap, e1, e2, e3, fun hl => ?_⟩
  obtain ⟨b, o, g1, g2, g4⟩ := e4 hl
  exact ⟨b, o, g1, Nat.lt_of_lt_of_le g2 hk.size, fun i x hi => (World.cell?_of_block (w := w) (hk.block b g2 id)).trans (g4 i x hi)⟩
theorem ints_own {w : World} {v : Value} {n : Nat} {l : List Int} (h : w.ownsRow 0 3 1 v n (intCells l)) (hf : ∀ x ∈ l, -9223372036854775808 ≤ x ∧ x ≤ 9223372036854775807) : IntsRO w v l := by
  have hn : n = l.length := by have := h.1; simp [intCells] at this; omega
  subst hn
  rcases own_shape h with ⟨rfl, h0⟩ | ⟨g, cap, rfl, hc, hg⟩
  · obtain rfl : l = [] := List.eq_nil_of_length_eq_zero h0
    exact ⟨none, 0, rfl, Nat.le_refl _, by simp, fun h => absurd rfl h⟩
  · refine ⟨_, cap, rfl, hc, hf, fun _ => ⟨g, 0, rfl, hg, fun i x hi => ?_⟩⟩
    rw [Nat.zero_add]
    exact own_cell h (by simp [intCells, hi])
def Clk.run (c : Clk) (l : List Int) : Clk := l.foldl (fun c t => (c.see t).1) c
def Clk.mark (c : Clk) (t : Int) : Int := if (c.see t).2.2 = true then (c.see t).2.1 else -1
end Go.Proofs.YtiglgfonhdfpmaaGreat

/- The insertion sort at items by clock's order. Condition: times within bounds. -/
set_option linter.unusedVariables false
set_option linter.unusedSimpArgs false
namespace Go.Proofs.YtiglgfonhdfpmaaGreat
open Go.RowKit

section
attribute [local go_sem ↓] run_storeItm
end
end Go.Proofs.YtiglgfonhdfpmaaGreat

/- What came in, read by its type: integers, texts, structs, arrays, slices of these. Laws over any program. No condition of its own. -/
set_option linter.unusedVariables false
set_option linter.unusedSimpArgs false
namespace Go.Proofs.YtiglgfonhdfpmaaGreat
open Go.RowKit

/-- These cells read as a value of this type. -/
def R (P : Program) (w : World) (t : TypeId) (cs : List Value) : Prop :=
  ∃ (H : Type) (enc : TypeId × Value → H) (spare : Nat → Bool) (held : Bool) (fuel : Nat) (x : DataW H × List MemPlace), DataW.trod enc P w 0 spare held fuel t cs = some x

section
variable {P : Program} {w : World} {t e : TypeId} {cs : List Value}
theorem R.int {k : IntKind} (ht : P.underlying t = some (.int k)) (h : R P w t cs) : ∃ n, cs = [.int k n] ∧ (Lit.int k n).wf = true := by
  obtain ⟨H, enc, spare, held, fuel, x, h⟩ := h
  obtain ⟨n, h1, _, h2⟩ := DataW.trod_int ht h
  exact ⟨n, h1, h2⟩
theorem R.bool (ht : P.underlying t = some .bool) (h : R P w t cs) : ∃ b, cs = [.bool b] := by
  obtain ⟨H, enc, spare, held, fuel, x, h⟩ := h
  obtain ⟨n, h1, _⟩ := DataW.trod_bool ht h
  exact ⟨n, h1⟩
theorem R.text (ht : P.underlying t = some .string) (h : R P w t cs) : ∃ s : ByteArray, cs = [.string s] ∧ s.size ≤ maxLen := by
  obtain ⟨H, enc, spare, held, fuel, x, h⟩ := h
  obtain ⟨n, h1, _, h2⟩ := DataW.trod_string ht h
  exact ⟨n, h1, h2⟩
theorem R.struct {fs : Array Field} (ht : P.underlying t = some (.struct fs)) (h : R P w t cs) : cs.length = P.cellsOf t ∧ ∀ (i : Nat) (f : Field), fs[i]? = some f → R P w f.type ((cs.drop f.offset).take (P.cellsOf f.type)) := by
  obtain ⟨H, enc, spare, held, fuel, x, h⟩ := h
  obtain ⟨xs, n, rfl, rfl, h1, h2, h3⟩ := DataW.trod_struct ht h
  refine ⟨h1, fun i f hf => ?_⟩
  have hi : i < xs.length := by rw [h2]; exact (Array.getElem?_eq_some_iff.1 hf).1
  exact ⟨H, enc, spare, held, n, xs[i], by rw [h3 i f hf, List.getElem?_eq_getElem hi]⟩
theorem cells_range {b o n : Nat} {cs' : List Value} (h : w.cells? 0 ⟨b, o, none⟩ n = some cs') : cs'.length = n ∧ w.rangeAt b o cs' := by
  obtain ⟨_, h1, h2⟩ := World.cells?_some h
  refine ⟨h1, fun j v hj => ?_⟩
  have hjl : j < n := by rw [← h1]; exact (List.getElem?_eq_some_iff.1 hj).1
  have := h2 j hjl
  rw [Addr.add_mid] at this
  rw [this, hj]
theorem R.slice {size : Nat} (ht : P.underlying t = some (.slice e)) (hs : P.cellsOf e = size) (hp : 0 < size) (h : R P w t cs) :
    ∃ ao len cap, cs = [.slice ao len cap] ∧ len ≤ cap ∧ cap ≤ maxLen ∧ (0 < len → ∃ b o, ao = some ⟨b, o, none⟩ ∧ b < w.heap.size ∧ ∀ i, i < len → ∃ cs', cs'.length = size ∧ w.rangeAt b (o + i * size) cs' ∧ R P w e cs') := by
  obtain ⟨H, enc, spare, held, fuel, x, h⟩ := h
  rcases DataW.trod_slice ht h with ⟨h0, _⟩ | ⟨a, len, cap, elems, rest, n, rfl, hcs, _, hb, hl, hm, hlen, hel, _⟩
  · exact ⟨none, 0, 0, h0, by omega, by simp, fun h => absurd h (by omega)⟩
  · refine ⟨some a, len, cap, hcs, hl, hm, fun h0 => ?_⟩
    obtain ⟨b, o, spot⟩ := a
    have hspot : spot = none := by
      have h1 := hel 0 h0
      rw [List.getElem?_eq_getElem (by omega)] at h1
      obtain ⟨cs', hc, _⟩ := Option.bind_eq_some_iff.1 h1
      rw [hs] at hc
      obtain ⟨_, g1, g2⟩ := World.cells?_some hc
      have g3 := g2 0 hp
      rw [List.getElem?_eq_getElem (by omega)] at g3
      have := World.cell?_spot g3
      simpa [Addr.add] using this
    subst hspot
    have hall : ∀ i, i < len → ∃ cs', cs'.length = size ∧ w.rangeAt b (o + i * size) cs' ∧ R P w e cs' := by
      intro i hi
      have h1 := hel i hi
      rw [List.getElem?_eq_getElem (by omega)] at h1
      obtain ⟨cs', hc, hx⟩ := Option.bind_eq_some_iff.1 h1
      rw [hs, Addr.add_mid] at hc
      obtain ⟨g1, g2⟩ := cells_range hc
      exact ⟨cs', g1, g2, H, enc, spare, held, n, _, hx⟩
    obtain ⟨cs', g1, g2, _⟩ := hall 0 h0
    refine ⟨b, o, rfl, ?_, hall⟩
    have := g2 0 _ (List.getElem?_eq_getElem (by omega))
    exact World.block_lt_of_cell? _ _ this
end

end Go.Proofs.YtiglgfonhdfpmaaGreat

/- What came in, as plain lists: bytes, bools, integers. Laws over any program. No condition of its own. -/
set_option linter.unusedVariables false
set_option linter.unusedSimpArgs false
namespace Go.Proofs.YtiglgfonhdfpmaaGreat
open Go.RowKit

theorem list_of {α : Type} {p : Nat → α → Prop} : ∀ n, (∀ i, i < n → ∃ x, p i x) → ∃ l : List α, l.length = n ∧ ∀ i x, l[i]? = some x → p i x
  | 0, _ => ⟨[], rfl, fun i x h => by simp at h⟩
  | n + 1, h => by
    obtain ⟨l, h1, h2⟩ := list_of n (fun i hi => h i (by omega))
    obtain ⟨x, hx⟩ := h n (by omega)
    refine ⟨l ++ [x], by simp [h1], fun i y hi => ?_⟩
    by_cases hq : i < n
    · rw [List.getElem?_append_left (by omega)] at hi
      exact h2 i y hi
    · have hlt := (List.getElem?_eq_some_iff.1 hi).1
      simp [h1] at hlt
      obtain rfl : i = n := by omega
      rw [List.getElem?_append_right (by omega)] at hi
      simp [h1] at hi
      subst hi
      exact hx
theorem max_len : maxLen ≤ 9223372036854775807 := by simp [maxLen]

section
variable {P : Program} {w : World} {t e : TypeId} {cs : List Value}
/-- A slice whose elements each read as something. -/
theorem R.list {α : Type} {p : List Value → α → Prop} {size : Nat} (ht : P.underlying t = some (.slice e)) (hs : P.cellsOf e = size) (hp : 0 < size) (hr : ∀ cs', R P w e cs' → ∃ x, p cs' x) (h : R P w t cs) :
    ∃ ao cap, ∃ l : List α, cs = [.slice ao l.length cap] ∧ l.length ≤ cap ∧ l.length ≤ 9223372036854775807 ∧
      (l ≠ [] → ∃ b o, ao = some ⟨b, o, none⟩ ∧ b < w.heap.size ∧ ∀ i x, l[i]? = some x → ∃ cs', cs'.length = size ∧ w.rangeAt b (o + i * size) cs' ∧ p cs' x) := by
  obtain ⟨ao, len, cap, rfl, h1, h2, h3⟩ := R.slice ht hs hp h
  have hm := max_len
  by_cases h0 : len = 0
  · subst h0
    exact ⟨ao, cap, [], rfl, by simp, by simp, fun h => absurd rfl h⟩
  · obtain ⟨b, o, rfl, hb, hc⟩ := h3 (by omega)
    obtain ⟨l, hl, hx⟩ := list_of (p := fun i x => ∃ cs', cs'.length = size ∧ w.rangeAt b (o + i * size) cs' ∧ p cs' x) len (fun i hi => by
      obtain ⟨cs', g1, g2, g3⟩ := hc i hi
      obtain ⟨x, hx⟩ := hr cs' g3
      exact ⟨x, cs', g1, g2, hx⟩)
    exact ⟨_, cap, l, by rw [hl], by omega, by omega, fun _ => ⟨b, o, rfl, hb, hx⟩⟩
theorem R.bytes (ht : P.underlying t = some (.slice e)) (he : P.underlying e = some (.int .u8)) (hs : P.cellsOf e = 1) (h : R P w t cs) :
    ∃ v l, cs = [v] ∧ BytesRO (fun _ => False) w v l ∧ l.length ≤ 9223372036854775807 := by
  obtain ⟨ao, cap, l, rfl, h1, h2, h3⟩ := R.list (p := fun cs (x : UInt8) => cs = [bv x]) ht hs (by omega) (fun cs' h => by
    obtain ⟨n, rfl, hw⟩ := R.int he h
    simp only [Lit.wf, Bool.and_eq_true, decide_eq_true_eq] at hw
    have e1 : IntKind.u8.min = 0 := rfl
    have e2 : IntKind.u8.max = 255 := rfl
    refine ⟨UInt8.ofNat n.toNat, ?_⟩
    have : (UInt8.ofNat n.toNat).toNat = n.toNat := by simp [UInt8.toNat_ofNat']; omega
    simp only [bv, this]
    rw [Int.toNat_of_nonneg (by omega)]) h
  refine ⟨_, l, rfl, ⟨ao, cap, rfl, h1, fun hl => ?_⟩, h2⟩
  obtain ⟨b, o, rfl, hb, hc⟩ := h3 hl
  refine ⟨b, o, rfl, hb, id, fun i hi => ?_⟩
  obtain ⟨cs', _, g2, rfl⟩ := hc i l[i] (List.getElem?_eq_getElem hi)
  have := g2 0 _ rfl
  simpa using this
/-- A field of a struct. -/
theorem R.field {fs : Array Field} (ht : P.underlying t = some (.struct fs)) (h : R P w t cs) (i : Nat) {f : Field} (hf : fs[i]? = some f) {o n : Nat} {e : TypeId} (ho : f.offset = o) (he : f.type = e) (hn : P.cellsOf e = n) :
    R P w e ((cs.drop o).take n) := by
  subst ho he hn
  exact (R.struct ht h).2 i f hf
end

end Go.Proofs.YtiglgfonhdfpmaaGreat

/- What came in, read by its type, within a bound of its bulk: texts, structs, arrays, slices. Plain laws over any program. -/
set_option linter.unusedVariables false
set_option linter.unusedSimpArgs false
namespace Go.Proofs.YtiglgfonhdfpmaaGreat
open Go.RowKit

def RB (P : Program) (w : World) (t : TypeId) (cs : List Value) (N : Nat) : Prop :=
  ∃ (H : Type) (enc : TypeId × Value → H) (spare : Nat → Bool) (held : Bool) (fuel : Nat) (x : DataW H × List MemPlace), DataW.trod enc P w 0 spare held fuel t cs = some x ∧ Rows.uptoBulk x.1 ≤ N
theorem RB.all {P : Program} {w : World} {t : TypeId} {cs : List Value} {N : Nat} (h : RB P w t cs N) : R P w t cs := by
  obtain ⟨H, enc, spare, held, fuel, x, h, _⟩ := h
  exact ⟨H, enc, spare, held, fuel, x, h⟩
theorem bulk_pos {H : Type} : ∀ d : DataW H, 1 ≤ Rows.uptoBulk d
  | .lit l => by cases l <;> simp [Rows.uptoBulk]
  | .nil => by simp [Rows.uptoBulk]
  | .ptr d => by simp [Rows.uptoBulk]
  | .slice _ _ => by simp [Rows.uptoBulk]
  | .agg _ => by simp [Rows.uptoBulk]
  | .iface _ _ => by simp [Rows.uptoBulk]
  | .map _ => by simp [Rows.uptoBulk]
  | .held _ => by simp [Rows.uptoBulk]
theorem bulk_in {H : Type} {d : DataW H} : ∀ {l : List (DataW H)}, d ∈ l → Rows.uptoBulk d ≤ Rows.uptoBulkAll l
  | x :: r, h => by
    simp only [Rows.uptoBulkAll]
    rcases List.mem_cons.1 h with rfl | h
    · omega
    · have := bulk_in h; omega
theorem bulk_len {H : Type} : ∀ l : List (DataW H), l.length ≤ Rows.uptoBulkAll l
  | [] => by simp [Rows.uptoBulkAll]
  | x :: r => by
    have := bulk_len r
    have := bulk_pos x
    simp only [Rows.uptoBulkAll, List.length_cons]
    omega

section
variable {P : Program} {w : World} {t e : TypeId} {cs : List Value} {N : Nat}
theorem RB.int {k : IntKind} (ht : P.underlying t = some (.int k)) (h : RB P w t cs N) : ∃ n, cs = [.int k n] ∧ (Lit.int k n).wf = true := h.all.int ht
theorem RB.bool (ht : P.underlying t = some .bool) (h : RB P w t cs N) : ∃ b, cs = [.bool b] := h.all.bool ht
theorem RB.text (ht : P.underlying t = some .string) (h : RB P w t cs N) : ∃ s : ByteArray, cs = [.string s] ∧ s.size ≤ N := by
  obtain ⟨H, enc, spare, held, fuel, x, h, hb⟩ := h
  obtain ⟨s, e, rfl, _⟩ := DataW.trod_string ht h
  simp only [Rows.uptoBulk] at hb
  have : s.data.toList.length = s.size := Array.length_toList
  exact ⟨s, e, by omega⟩
theorem RB.struct {fs : Array Field} (ht : P.underlying t = some (.struct fs)) (h : RB P w t cs N) : cs.length = P.cellsOf t ∧ ∀ (i : Nat) (f : Field), fs[i]? = some f → RB P w f.type ((cs.drop f.offset).take (P.cellsOf f.type)) N := by
  obtain ⟨H, enc, spare, held, fuel, x, h, hb⟩ := h
  obtain ⟨xs, n, rfl, hx, h1, h2, h3⟩ := DataW.trod_struct ht h
  refine ⟨h1, fun i f hf => ?_⟩
  have hi : i < xs.length := by rw [h2]; exact (Array.getElem?_eq_some_iff.1 hf).1
  refine ⟨H, enc, spare, held, n, xs[i], by rw [h3 i f hf, List.getElem?_eq_getElem hi], ?_⟩
  have hmem : xs[i].1 ∈ xs.map (fun x => x.fst) := List.mem_map_of_mem (List.getElem_mem _)
  have hle := bulk_in hmem
  rw [hx] at hb
  simp only [Rows.uptoBulk] at hb
  omega
theorem RB.field {fs : Array Field} (ht : P.underlying t = some (.struct fs)) (h : RB P w t cs N) (i : Nat) {f : Field} (hf : fs[i]? = some f) {o n : Nat} {e : TypeId} (ho : f.offset = o) (he : f.type = e) (hn : P.cellsOf e = n) :
    RB P w e ((cs.drop o).take n) N := by
  subst ho he hn
  exact (RB.struct ht h).2 i f hf
theorem RB.slice {size : Nat} (ht : P.underlying t = some (.slice e)) (hs : P.cellsOf e = size) (hp : 0 < size) (h : RB P w t cs N) :
    ∃ ao len cap, cs = [.slice ao len cap] ∧ len ≤ cap ∧ len ≤ N ∧ (0 < len → ∃ b o, ao = some ⟨b, o, none⟩ ∧ b < w.heap.size ∧ ∀ i, i < len → ∃ cs', cs'.length = size ∧ w.rangeAt b (o + i * size) cs' ∧ RB P w e cs' N) := by
  obtain ⟨H, enc, spare, held, fuel, x, h, hbk⟩ := h
  rcases DataW.trod_slice ht h with ⟨h0, _⟩ | ⟨a, len, cap, elems, rest, n, rfl, hcs, hx0, hb, hl, hm, hlen, hel, _⟩
  · exact ⟨none, 0, 0, h0, by omega, by simp, fun h => absurd h (by omega)⟩
  · have hbl := bulk_len (elems.map (fun x => x.fst))
    rw [List.length_map] at hbl
    rw [hx0] at hbk
    simp only [Rows.uptoBulk] at hbk
    refine ⟨some a, len, cap, hcs, hl, by omega, fun h0 => ?_⟩
    obtain ⟨b, o, spot⟩ := a
    have hspot : spot = none := by
      have h1 := hel 0 h0
      rw [List.getElem?_eq_getElem (by omega)] at h1
      obtain ⟨cs', hc, _⟩ := Option.bind_eq_some_iff.1 h1
      rw [hs] at hc
      obtain ⟨_, g1, g2⟩ := World.cells?_some hc
      have g3 := g2 0 hp
      rw [List.getElem?_eq_getElem (by omega)] at g3
      have := World.cell?_spot g3
      simpa [Addr.add] using this
    subst hspot
    have hall : ∀ i, i < len → ∃ cs', cs'.length = size ∧ w.rangeAt b (o + i * size) cs' ∧ RB P w e cs' N := by
      intro i hi
      have h1 := hel i hi
      rw [List.getElem?_eq_getElem (by omega)] at h1
      obtain ⟨cs', hc, hx⟩ := Option.bind_eq_some_iff.1 h1
      rw [hs, Addr.add_mid] at hc
      obtain ⟨g1, g2⟩ := cells_range hc
      refine ⟨cs', g1, g2, H, enc, spare, held, n, _, hx, ?_⟩
      have hmem : (elems[i]'(by omega)).1 ∈ elems.map (fun x => x.fst) := List.mem_map_of_mem (List.getElem_mem _)
      have hle := bulk_in hmem
      omega
    obtain ⟨cs', g1, g2, _⟩ := hall 0 h0
    refine ⟨b, o, rfl, ?_, hall⟩
    have := g2 0 _ (List.getElem?_eq_getElem (by omega))
    exact World.block_lt_of_cell? _ _ this
/-- A slice whose elements each read as something. -/
theorem RB.list {α : Type} {p : List Value → α → Prop} {size : Nat} (ht : P.underlying t = some (.slice e)) (hs : P.cellsOf e = size) (hp : 0 < size) (hr : ∀ cs', RB P w e cs' N → ∃ x, p cs' x) (h : RB P w t cs N) :
    ∃ ao cap, ∃ l : List α, cs = [.slice ao l.length cap] ∧ l.length ≤ cap ∧ l.length ≤ N ∧
      (l ≠ [] → ∃ b o, ao = some ⟨b, o, none⟩ ∧ b < w.heap.size ∧ ∀ i x, l[i]? = some x → ∃ cs', cs'.length = size ∧ w.rangeAt b (o + i * size) cs' ∧ p cs' x) := by
  obtain ⟨ao, len, cap, rfl, h1, h2, h3⟩ := RB.slice ht hs hp h
  by_cases h0 : len = 0
  · subst h0
    exact ⟨ao, cap, [], rfl, by simp, by simp, fun h => absurd rfl h⟩
  · obtain ⟨b, o, rfl, hb, hc⟩ := h3 (by omega)
    obtain ⟨l, hl, hx⟩ := list_of (p := fun i x => ∃ cs', cs'.length = size ∧ w.rangeAt b (o + i * size) cs' ∧ p cs' x) len (fun i hi => by
      obtain ⟨cs', g1, g2, g3⟩ := hc i hi
      obtain ⟨x, hx⟩ := hr cs' g3
      exact ⟨x, cs', g1, g2, hx⟩)
    exact ⟨_, cap, l, by rw [hl], by omega, by omega, fun _ => ⟨b, o, rfl, hb, hx⟩⟩
theorem int_bounds {n : Int} (h : (Lit.int .i64 n).wf = true) : -9223372036854775808 ≤ n ∧ n ≤ 9223372036854775807 := by
  simp only [Lit.wf, Bool.and_eq_true, decide_eq_true_eq] at h
  simp [IntKind.min, IntKind.max, IntKind.signed, IntKind.bits] at h
  exact h
end

end Go.Proofs.YtiglgfonhdfpmaaGreat

/- The document's Events, how great items are, are they the same, and how they come in (LX; turned from IdxP, IdxK, IdxUp). -/
set_option linter.unusedVariables false
set_option linter.unusedSimpArgs false
namespace Go.Proofs.YtiglgfonhdfpmaaGreat
open Go.RowKit


def wt5 (l : List Itm) : Nat := (l.map fun x => 10 + x.key.length).sum
theorem wt5_snoc (l : List Itm) (x : Itm) : wt5 (l ++ [x]) = wt5 l + (10 + x.key.length) := by simp [wt5]
theorem wt5_take (l : List Itm) : ∀ i, wt5 (l.take i) ≤ wt5 l := fun i => by
  have : wt5 l = wt5 (l.take i) + wt5 (l.drop i) := by
    conv => lhs; rw [← List.take_append_drop i l]
    simp only [wt5, List.map_append, List.sum_append]
  omega
set_option maxHeartbeats 1000000 in
theorem great5 {v : Value} {l : List Itm} (w : World) (hv : ItmsRO w v l) (hs : wt5 l ≤ 4611686018427387904) (hll : l.length ≤ 9223372036854775807) :
    Calls Tryz.prog 20 #[v] w fun e w' => e = .returned (.int .i64 (wt5 l)) ∧ Below w.heap.size w w' := by
  obtain ⟨ao, cap, rfl, hcap, hfit, hcell⟩ := hv
  have H0 : St (fun _ => False) w w [] := St.nil (fun _ => False) w
  go_enter Tryz.func20, Tryz.ntmps20
  go_upto_block 1 with (fail)
  go_loopw [3, 8] (fun n j wr => ∃ (i : Nat), i ≤ l.length ∧ n = .int .i64 (wt5 (l.take i)) ∧ j = .int .i64 i ∧ St (fun _ => False) w wr []) (fun _ j _ => l.length - (intOf j).toNat)
  case atStart => exact ⟨0, by omega, rfl, rfl, H0⟩
  case round =>
    clear H0
    obtain ⟨i, hi, rfl, rfl, HL⟩ := hrel
    by_cases hlt : i < l.length
    · obtain ⟨b, o, rfl, hb, hc⟩ := hcell (by rintro rfl; simp at hlt)
      obtain ⟨x, hx⟩ : ∃ x, l[i]? = some x := ⟨_, List.getElem?_eq_getElem hlt⟩
      have hn : wt5 (l.take (i + 1)) = wt5 (l.take i) + (10 + x.key.length) := by rw [take_snoc' hx, wt5_snoc]
      have hle := wt5_take l (i + 1)
      obtain ⟨q0, q1, q2, q3⟩ := itm_cells (hc i x hx) (HL.kept.block b hb id)
      obtain ⟨T, hT⟩ : ∃ T, wt5 (l.take i) = T := ⟨_, rfl⟩
      rw [hT] at hn
      rw [hn] at hle
      have hnh := Lib.hid hn
      try rw [hT]
      clear hn hx hc hcell hT hfit
      obtain ⟨k, key, t, v⟩ := x
      simp only at q0 q1 q2 q3 hle hnh
      unfold textV at q1
      have hsz : ((key.toArray).size : Int) = key.length := by simp
      have hw1 : IntKind.i64.wrap (10 + (key.length : Int)) = ((10 + key.length : Nat) : Int) := by rw [IntKind.wrap_i64]; omega
      have hw2 : IntKind.i64.wrap ((T : Int) + ((10 + key.length : Nat) : Int)) = ((T + (10 + key.length) : Nat) : Int) := by rw [IntKind.wrap_i64]; omega
      have HA : St (fun _ => False) w _ [_] := HL.allocAt rfl #[.int .i64 k, .string ⟨key.toArray⟩, .int .i64 t, .int .i64 v] 56
      go_upto_region 5 with (fail)
      obtain ⟨wa, hwa⟩ : ∃ wa, wr.alloc (.cells #[.int .i64 k, .string ⟨key.toArray⟩, .int .i64 t, .int .i64 v] 56) = wa := ⟨_, rfl⟩
      obtain ⟨ob, hob⟩ : ∃ ob, wr.heap.size = ob := ⟨_, rfl⟩
      rw [hwa, hob] at HA
      try rw [hwa]
      try simp only [hob]
      clear hwa hob q0 q1 q2 q3 HL
      have d1 := HA.cell 0 1 rfl rfl
      go_wp2
      go_roundw
      case rel =>
        refine ⟨i + 1, by omega, ?_, by go_num, HA.pick []⟩
        rw [hnh.out]
        first | rfl | (go_num; done) | skip
      case measure => simp [intOf]; omega
    · obtain rfl : i = l.length := by omega
      rw [List.take_length]
      go_wp2
      go_ret
      exact ⟨rfl, HL.below (Nat.le_refl _) (fun _ h => h.elim)⟩

set_option maxHeartbeats 1000000 in
set_option maxRecDepth 100000 in
theorem items_same {v1 v2 : Value} {l : List Itm} (w : World) (hv1 : ItmsRO w v1 l) (hv2 : ItmsRO w v2 l) (hll : l.length ≤ 9223372036854775807) :
    Calls Tryz.prog 44 #[v1, v2] w fun e w' => e = .returned (.bool true) ∧ Below w.heap.size w w' := by
  obtain ⟨ao, cap, rfl, hcap, _, hcell⟩ := hv1
  obtain ⟨ap, cbp, rfl, hcbp, _, hcell2⟩ := hv2
  have H0 : St (fun _ => False) w w [] := St.nil (fun _ => False) w
  go_enter Tryz.func44, Tryz.ntmps44
  have hz : ((l.length : Int) == (l.length : Int)) = true := by simp
  go_upto_block 1 with (fail)
  go_loopw [13] (fun j wr => ∃ (i : Nat), i ≤ l.length ∧ j = .int .i64 i ∧ St (fun _ => False) w wr []) (fun j _ => l.length - (intOf j).toNat)
  case atStart => exact ⟨0, by omega, rfl, H0⟩
  case round =>
    clear H0
    obtain ⟨i, hi, rfl, HL⟩ := hrel
    by_cases hlt : i < l.length
    · obtain ⟨b, o, rfl, hb, hc⟩ := hcell (by rintro rfl; simp at hlt)
      obtain ⟨b2, o2, rfl, hb2, hc2⟩ := hcell2 (by rintro rfl; simp at hlt)
      obtain ⟨x, hx⟩ : ∃ x, l[i]? = some x := ⟨_, List.getElem?_eq_getElem hlt⟩
      have g1 := hc i x hx
      have g2 := hc2 i x hx
      clear hx hc hcell hc2 hcell2
      obtain ⟨k, key, t, v⟩ := x
      go_upto_region 6 with (fail)
      refine wp_calm (fun w' => St (fun _ => False) w w' []) (by kernel_rfl) (by kernel_rfl) (HL.drew) ?_
      iterate 9 first
        | (apply calm_pass
           · rfl
           intro K hK
           go_simp
           refine hK _ ?_
           clear hK K)
        | (apply calm_step
           · rfl
           · intro w1 h1
             obtain ⟨q0, q1, q2, q3⟩ := itm_cells g1 (h1.kept.block b hb id)
             obtain ⟨p0, p1, p2, p3⟩ := itm_cells g2 (h1.kept.block b2 hb2 id)
             simp only at q0 q1 q2 q3 p0 p1 p2 p3
             unfold textV at q1 p1
             first
               | (go_simp
                  first
                    | rfl
                    | exact ⟨rfl, h1⟩
                 )
           intro K hK
           go_simp
           refine hK _ ?_
           clear hK K)
      refine calm_nil ?_
      intro w9 H9
      go_wp2
      go_roundw
      case rel => exact ⟨i + 1, by omega, by go_num, H9⟩
      case measure => simp [intOf]; omega
    · obtain rfl : i = l.length := by omega
      go_wp2
      go_ret
      exact ⟨rfl, HL.below (Nat.le_refl _) (fun _ h => h.elim)⟩

theorem itm_read {w : World} {cs : List Value} {N : Nat} (hN : N ≤ 9223372036854775807) (h : RB Tryz.prog w 56 cs N) : ∃ x : Itm, cs = (itmC x).toList ∧ x.fits ∧ x.key.length ≤ N := by
  have hl : cs.length = 4 := (RB.struct Tryz.underlying56 h).1.trans (by kernel_rfl)
  obtain ⟨c0, c1, c2, c3, rfl⟩ : ∃ a b c d, cs = [a, b, c, d] := by
    match cs, hl with
    | [a, b, c, d], _ => exact ⟨a, b, c, d, rfl⟩
  have r0 : RB Tryz.prog w 3 [c0] N := RB.field Tryz.underlying56 h 0 rfl (o := 0) (n := 1) rfl rfl (by kernel_rfl)
  have r1 : RB Tryz.prog w 9 [c1] N := RB.field Tryz.underlying56 h 1 rfl (o := 1) (n := 1) rfl rfl (by kernel_rfl)
  have r2 : RB Tryz.prog w 3 [c2] N := RB.field Tryz.underlying56 h 2 rfl (o := 2) (n := 1) rfl rfl (by kernel_rfl)
  have r3 : RB Tryz.prog w 3 [c3] N := RB.field Tryz.underlying56 h 3 rfl (o := 3) (n := 1) rfl rfl (by kernel_rfl)
  obtain ⟨n0, e0, g0⟩ := r0.int Tryz.underlying3
  obtain ⟨s, e1, g1⟩ := r1.text Tryz.underlying9
  obtain ⟨n2, e2, g2⟩ := r2.int Tryz.underlying3
  obtain ⟨n3, e3, g3⟩ := r3.int Tryz.underlying3
  simp only [List.cons.injEq, and_true] at e0 e1 e2 e3
  subst e0 e1 e2 e3
  have hs : s.data.toList.length = s.size := Array.length_toList
  refine ⟨⟨n0, s.data.toList, n2, n3⟩, ?_, ⟨int_bounds g0, by simp only; omega, int_bounds g2, int_bounds g3⟩, by simp only; omega⟩
  cases s
  simp [textV]
theorem itms_read {w : World} {cs : List Value} {N : Nat} (hN : N ≤ 9223372036854775807) (h : RB Tryz.prog w 41 cs N) : ∃ v l, cs = [v] ∧ ItmsRO w v l ∧ l.length ≤ N ∧ ∀ x ∈ l, x.key.length ≤ N := by
  obtain ⟨ao, cap, l, rfl, h1, h2, h3⟩ := RB.list (p := fun cs (x : Itm) => cs = (itmC x).toList ∧ x.fits ∧ x.key.length ≤ N) Tryz.underlying41 (size := 4) (by kernel_rfl) (by omega) (fun cs' h => itm_read hN h) h
  have hx : ∀ x ∈ l, x.fits ∧ x.key.length ≤ N := fun x hx => by
    obtain ⟨b, o, _, _, hc⟩ := h3 (fun h => by subst h; cases hx)
    obtain ⟨i, hi⟩ := List.getElem?_of_mem hx
    obtain ⟨cs', _, _, _, g⟩ := hc i x hi
    exact g
  refine ⟨_, l, rfl, ⟨ao, cap, rfl, h1, fun x h => (hx x h).1, fun hl => ?_⟩, h2, fun x h => (hx x h).2⟩
  obtain ⟨b, o, rfl, hb, hc⟩ := h3 hl
  refine ⟨b, o, rfl, hb, fun i x hi => ?_⟩
  obtain ⟨cs', _, g2, rfl, _⟩ := hc i x hi
  exact g2
theorem wt5_le {N : Nat} : ∀ l : List Itm, (∀ x ∈ l, x.key.length ≤ N) → wt5 l ≤ l.length * (10 + N)
  | [], _ => by simp [wt5]
  | x :: l, h => by
    have h1 := wt5_le l (fun y hy => h y (List.mem_cons_of_mem _ hy))
    have h2 := h x List.mem_cons_self
    simp only [wt5, List.map_cons, List.sum_cons, List.length_cons, Nat.succ_mul] at h1 ⊢
    omega
end Go.Proofs.YtiglgfonhdfpmaaGreat

/- Windows: right ones, which join, their places. -/
set_option linter.unusedVariables false
set_option linter.unusedSimpArgs false
namespace Go.Proofs.YtiglgfonhdfpmaaGreat
open Go.RowKit

def orI (l : List Int) : Int := (l.find? fun x => decide (x ≠ 0)).getD 0
theorem orI_zero {l : List Int} {i : Nat} {x : Int} (h : ∀ y ∈ l.take i, y = 0) (hx : l[i]? = some x) (h0 : x ≠ 0) : orI l = x := by
  have e : l = l.take i ++ (x :: l.drop (i + 1)) := by
    obtain ⟨hi, rfl⟩ := List.getElem?_eq_some_iff.1 hx
    rw [List.getElem_cons_drop, List.take_append_drop]
  have e2 : (l.take i).find? (fun x => decide (x ≠ 0)) = none := by
    rw [List.find?_eq_none]
    intro y hy
    simp [h y hy]
  unfold orI
  rw [e, List.find?_append, e2]
  simp [h0]
theorem orI_all {l : List Int} (h : ∀ y ∈ l, y = 0) : orI l = 0 := by
  have e2 : l.find? (fun x => decide (x ≠ 0)) = none := by
    rw [List.find?_eq_none]
    intro y hy
    simp [h y hy]
  unfold orI
  rw [e2]
  rfl
theorem ints_blk {w : World} {b : Nat} {t : TypeId} {l : List Int} (hb : w.heap[b]? = some (.cells (intCells l).toArray t (0, 0))) (hf : ∀ x ∈ l, -9223372036854775808 ≤ x ∧ x ≤ 9223372036854775807) : IntsRO w (.slice (some ⟨b, 0, none⟩) l.length l.length) l := by
  refine ⟨_, _, rfl, Nat.le_refl _, hf, fun _ => ⟨b, 0, rfl, blk_lt hb, fun i x hi => ?_⟩⟩
  rw [Nat.zero_add]
  refine cell_blk' hb ?_
  rw [List.getElem?_toArray]
  simp [intCells, hi]
set_option maxHeartbeats 1000000 in
set_option maxRecDepth 100000 in
theorem cmp_or {v : Value} {l : List Int} (w : World) (hv : IntsRO w v l) (hl : l.length ≤ 9223372036854775807) :
    Calls Tryz.prog 143 #[v] w fun e w' => e = .returned (.int .i64 (orI l)) ∧ w' = w := by
  obtain ⟨ao, cap, rfl, hcap, hint, hcell⟩ := hv
  go_enter Tryz.func143, Tryz.ntmps143
  go_upto_block 1 with (fail)
  go_loopw [5, 8] (fun _ j wr => ∃ (i : Nat), i ≤ l.length ∧ j = .int .i64 i ∧ Hid (∀ y ∈ l.take i, y = 0) ∧ wr = w) (fun _ j _ => l.length - (intOf j).toNat)
  case atStart => exact ⟨0, by omega, rfl, Lib.hid (by simp), rfl⟩
  case round =>
    obtain ⟨i, hi, rfl, hz, rfl⟩ := hrel
    by_cases hlt : i < l.length
    · obtain ⟨b, o, rfl, hb, hc⟩ := hcell (by rintro rfl; simp at hlt)
      obtain ⟨x, hx⟩ : ∃ x, l[i]? = some x := ⟨_, List.getElem?_eq_getElem hlt⟩
      have c0 := hc i x hx
      have hxh := Lib.hid hx
      clear hx hc hcell
      by_cases h0 : x = 0
      · subst h0
        go_wp2
        go_roundw
        case rel =>
          refine ⟨i + 1, by omega, by go_num, Lib.hid ?_, by first | rfl | trivial⟩
          rw [take_snoc' hxh.out]
          intro y hy
          rcases List.mem_append.1 hy with hy | hy
          · exact hz.out y hy
          · exact List.mem_singleton.1 hy
        case measure => simp [intOf]; omega
      · have hr := Lib.hid (orI_zero hz.out hxh.out h0)
        have z0 : (x != 0) = true := by simpa using h0
        have z1 : (x == 0) = false := by simpa using h0
        go_wp2
        go_ret
        rw [hr.out]
        exact ⟨rfl, rfl⟩
    · obtain rfl : i = l.length := by omega
      have hr := Lib.hid (orI_all (l := l) (by have := hz.out; rwa [List.take_length] at this))
      go_wp2
      go_ret
      rw [hr.out]
      exact ⟨rfl, rfl⟩
theorem compare_lim (a b : List UInt8) : -1 ≤ Lib.compareBytes a b ∧ Lib.compareBytes a b ≤ 1 := by
  induction a generalizing b with
  | nil => cases b <;> simp [Lib.compareBytes]
  | cons x a ih =>
    cases b with
    | nil => simp [Lib.compareBytes]
    | cons y b =>
      unfold Lib.compareBytes
      split
      · omega
      · split
        · omega
        · exact ih b
theorem compareI_lim (a b : Int) : -1 ≤ Lib.compareInt a b ∧ Lib.compareInt a b ≤ 1 := by
  unfold Lib.compareInt
  split
  · omega
  · split <;> omega
theorem place_or (a b : Wd) : orI [Lib.compareBytes a.key b.key, Lib.compareInt a.frm b.frm, Lib.compareInt a.to b.to] = a.place b := by
  unfold Wd.place orI
  by_cases h1 : Lib.compareBytes a.key b.key = 0
  · by_cases h2 : Lib.compareInt a.frm b.frm = 0
    · by_cases h3 : Lib.compareInt a.to b.to = 0 <;> simp [h1, h2, h3]
    · simp [h1, h2]
  · simp [h1]
set_option maxHeartbeats 2000000 in
set_option maxRecDepth 100000 in
theorem wd_place (x y : Wd) (w : World) : Calls Tryz.prog 77 #[wdV x, wdV y] w fun e w' => e = .returned (.int .i64 (x.place y)) ∧ Below w.heap.size w w' := by
  have hp := Lib.hid (place_or x y)
  have l1 := compare_lim x.key y.key
  have l2 := compareI_lim x.frm y.frm
  have l3 := compareI_lim x.to y.to
  obtain ⟨xk, xf, xt⟩ := x
  obtain ⟨yk, yf, yt⟩ := y
  have H0 : St (fun _ => False) w w [] := St.nil (fun _ => False) w
  have H1 : St (fun _ => False) w _ [_] := H0.allocAt rfl #[.string ⟨xk.toArray⟩, .int .i64 xf, .int .i64 xt] 61
  have H2 : St (fun _ => False) w _ [_, _] := H1.allocAt (B := w.heap.size + 1) (Array.size_push _) #[.string ⟨yk.toArray⟩, .int .i64 yf, .int .i64 yt] 61
  have k1 := fun w' => strings_Compare ⟨xk.toArray⟩ ⟨yk.toArray⟩ w'
  have k2 := fun w' => cmp_Compare_int xf yf w'
  have k3 := fun w' => cmp_Compare_int xt yt w'
  simp only at hp l1 l2 l3 k1
  obtain ⟨c1, hc1⟩ : ∃ c, Lib.compareBytes xk yk = c := ⟨_, rfl⟩
  obtain ⟨c2, hc2⟩ : ∃ c, Lib.compareInt xf yf = c := ⟨_, rfl⟩
  obtain ⟨c3, hc3⟩ : ∃ c, Lib.compareInt xt yt = c := ⟨_, rfl⟩
  rw [hc1] at l1
  rw [hc2] at l2
  rw [hc3] at l3
  rw [hc1, hc2, hc3] at hp
  simp only [hc1] at k1
  simp only [hc2] at k2
  simp only [hc3] at k3
  clear hc1 hc2 hc3
  unfold wdV wdC textV
  simp only
  go_enter Tryz.func77, Tryz.ntmps77
  go_upto_region 1 with (fail)
  obtain ⟨b, hb⟩ : ∃ b, w.heap.size = b := ⟨_, rfl⟩
  obtain ⟨b2, hb2⟩ : ∃ b2, b + 1 = b2 := ⟨_, rfl⟩
  obtain ⟨w2, hw2⟩ : ∃ w2, (w.alloc (.cells #[.string ⟨xk.toArray⟩, .int .i64 xf, .int .i64 xt] 61)).alloc (.cells #[.string ⟨yk.toArray⟩, .int .i64 yf, .int .i64 yt] 61) = w2 := ⟨_, rfl⟩
  rw [hw2, hb, hb2] at H2
  rw [hw2]
  simp only [hb, hb2]
  have H2 : St (fun _ => False) w w2 [Blk b2 #[.string ⟨yk.toArray⟩, .int .i64 yf, .int .i64 yt] 61, Blk b #[.string ⟨xk.toArray⟩, .int .i64 xf, .int .i64 xt] 61] := H2
  clear hb hb2 hw2 H0 H1
  refine wp_calm_tail 15 (fun w' => St (fun _ => False) w w' [Blk b2 #[.string ⟨yk.toArray⟩, .int .i64 yf, .int .i64 yt] 61, Blk b #[.string ⟨xk.toArray⟩, .int .i64 xf, .int .i64 xt] 61]) (by kernel_rfl) (by kernel_rfl) (H2.drew) ?_
  simp only [List.take_succ_cons, List.take_zero, List.drop_succ_cons, List.drop_zero]
  iterate 15 first
    | (apply calm_pass
       · rfl
       intro K hK
       go_simp
       refine hK _ ?_
       clear hK K)
    | (apply calm_step
       · rfl
       · intro w1 h1
         have d0 := h1.cell 0 0 rfl rfl
         have d1 := h1.cell 0 1 rfl rfl
         have d2 := h1.cell 0 2 rfl rfl
         have e0 := h1.cell 1 0 rfl rfl
         have e1 := h1.cell 1 1 rfl rfl
         have e2 := h1.cell 1 2 rfl rfl
         first
           | (go_simp
              first
                | rfl
                | exact ⟨rfl, h1⟩
                | (go_at_call 144; with_reducible exact St.callSame' (k1 w1) h1)
                | (go_at_call 145; with_reducible exact St.callSame' (k2 w1) h1)
                | (go_at_call 145; with_reducible exact St.callSame' (k3 w1) h1)
             )
       intro K hK
       go_simp
       refine hK _ ?_
       clear hK K)
  refine calm_nil ?_
  intro w3 H3
  have H4 : St (fun _ => False) w _ [_, _, _] := H3.allocAt rfl #[.int .i64 c1, .int .i64 c2, .int .i64 c3] 3
  have ko := cmp_or _ (ints_blk (l := [c1, c2, c3]) (H4.blk 0 rfl) (by
    intro z hz
    simp only [List.mem_cons, List.not_mem_nil, or_false] at hz
    omega)) (by simp)
  have ko2 := St.callSame' ko H4
  simp only [List.length_cons, List.length_nil] at ko2
  go_wp2_with (go_at_call 143; go_must (refine ko2.mono ?_; rintro e w4 ⟨rfl, H5⟩))
  go_ret
  rw [hp.out]
  exact ⟨rfl, H5.below (Nat.le_refl _) (fun _ h => h.elim)⟩

set_option maxHeartbeats 2000000 in
set_option maxRecDepth 100000 in
theorem wd_right (x : Wd) (hx : x.fits) (w : World) : Calls Tryz.prog 146 #[wdV x] w fun e w' => e = .returned (.bool x.right) ∧ Below w.heap.size w w' := by
  obtain ⟨key, f, t⟩ := x
  have kn := fun w' => ev_name key hx.1 w'
  have hr0 : Wd.right ⟨key, f, t⟩ = (nameB key && decide (0 ≤ f) && decide (f ≤ 1099511627776) && decide (f < t) && decide (t ≤ 4398046511104)) := rfl
  obtain ⟨nm, hnm⟩ : ∃ nm, nameB key = nm := ⟨_, rfl⟩
  rw [hnm] at kn hr0
  clear hnm
  have H : St (fun _ => False) w _ [_] := (St.nil (fun _ => False) w).allocAt rfl #[.string ⟨key.toArray⟩, .int .i64 f, .int .i64 t] 61
  have hcs : ∃ z0 z1 z2 z3 : Bool, decide (0 ≤ f) = z0 ∧ decide (f ≤ 1099511627776) = z1 ∧ decide (f < t) = z2 ∧ decide (t ≤ 4398046511104) = z3 := ⟨_, _, _, _, rfl, rfl, rfl, rfl⟩
  obtain ⟨z0, z1, z2, z3, e0, e1, e2, e3⟩ := hcs
  rw [e0, e1, e2, e3] at hr0
  have hr := Lib.hid hr0
  unfold textV at kn
  unfold wdV wdC textV
  simp only
  clear hr0 hx
  go_enter Tryz.func146, Tryz.ntmps146
  go_upto_region 1 with (fail)
  obtain ⟨b, hb⟩ : ∃ b, w.heap.size = b := ⟨_, rfl⟩
  obtain ⟨w1, hw1⟩ : ∃ w1, w.alloc (.cells #[.string ⟨key.toArray⟩, .int .i64 f, .int .i64 t] 61) = w1 := ⟨_, rfl⟩
  rw [hw1, hb] at H
  rw [hw1]
  simp only [hb]
  have H : St (fun _ => False) w w1 [Blk b #[.string ⟨key.toArray⟩, .int .i64 f, .int .i64 t] 61] := H
  clear hb hw1
  have c0 := H.cell 0 0 rfl rfl
  have c1 := H.cell 0 1 rfl rfl
  have c2 := H.cell 0 2 rfl rfl
  have hk : nm = false ∨ (nm = true ∧ z0 = false) ∨ (nm = true ∧ z0 = true ∧ z1 = false) ∨ (nm = true ∧ z0 = true ∧ z1 = true ∧ z2 = false) ∨ (nm = true ∧ z0 = true ∧ z1 = true ∧ z2 = true) := by
    cases nm <;> cases z0 <;> cases z1 <;> cases z2 <;> simp
  rcases hk with rfl | ⟨rfl, rfl⟩ | ⟨rfl, rfl, rfl⟩ | ⟨rfl, rfl, rfl, rfl⟩ | ⟨rfl, rfl, rfl, rfl⟩
  all_goals
    go_wp2_with (go_at_call 104; go_must (refine (kn _).mono ?_; rintro e w7 ⟨rfl, rfl⟩))
    go_ret
    rw [hr.out]
    exact ⟨ret_bool (by simp), H.below (Nat.le_refl _) (fun _ h => h.elim)⟩

set_option maxHeartbeats 2000000 in
set_option maxRecDepth 100000 in
theorem wd_joins (x y : Wd) (hx : x.fits) (hy : y.fits) (w : World) : Calls Tryz.prog 147 #[wdV x, wdV y] w fun e w' => e = .returned (.bool (x.joins y)) ∧ Below w.heap.size w w' := by
  have kx := fun w' => wd_right x hx w'
  have ky := fun w' => wd_right y hy w'
  have hr0 : x.joins y = (x.right && y.right && decide (x.key = y.key) && decide (x.frm ≤ y.to) && decide (y.frm ≤ x.to)) := rfl
  obtain ⟨rx, hrx⟩ : ∃ rx, x.right = rx := ⟨_, rfl⟩
  obtain ⟨ry, hry⟩ : ∃ ry, y.right = ry := ⟨_, rfl⟩
  rw [hrx] at kx hr0
  rw [hry] at ky hr0
  clear hrx hry hx hy
  obtain ⟨xk, xf, xt⟩ := x
  obtain ⟨yk, yf, yt⟩ := y
  have H0 : St (fun _ => False) w w [] := St.nil (fun _ => False) w
  have H1 : St (fun _ => False) w _ [_] := H0.allocAt rfl #[.string ⟨xk.toArray⟩, .int .i64 xf, .int .i64 xt] 61
  have H2 : St (fun _ => False) w _ [_, _] := H1.allocAt (B := w.heap.size + 1) (Array.size_push _) #[.string ⟨yk.toArray⟩, .int .i64 yf, .int .i64 yt] 61
  simp only at hr0
  have hcs : ∃ z1 z2 z3 : Bool, decide (xk = yk) = z1 ∧ decide (xf ≤ yt) = z2 ∧ decide (yf ≤ xt) = z3 := ⟨_, _, _, rfl, rfl, rfl⟩
  obtain ⟨z1, z2, z3, e1, e2, e3⟩ := hcs
  rw [e1, e2, e3] at hr0
  have hr := Lib.hid hr0
  have e1b : (xk == yk) = z1 := by rw [← e1]; by_cases h : xk = yk <;> simp [h]
  unfold wdV wdC textV at kx ky ⊢
  simp only at kx ky ⊢
  clear hr0
  go_enter Tryz.func147, Tryz.ntmps147
  go_upto_region 1 with (fail)
  obtain ⟨b, hb⟩ : ∃ b, w.heap.size = b := ⟨_, rfl⟩
  obtain ⟨b2, hb2⟩ : ∃ b2, b + 1 = b2 := ⟨_, rfl⟩
  obtain ⟨w2, hw2⟩ : ∃ w2, (w.alloc (.cells #[.string ⟨xk.toArray⟩, .int .i64 xf, .int .i64 xt] 61)).alloc (.cells #[.string ⟨yk.toArray⟩, .int .i64 yf, .int .i64 yt] 61) = w2 := ⟨_, rfl⟩
  rw [hw2, hb, hb2] at H2
  rw [hw2]
  simp only [hb, hb2]
  have H2 : St (fun _ => False) w w2 [Blk b2 #[.string ⟨yk.toArray⟩, .int .i64 yf, .int .i64 yt] 61, Blk b #[.string ⟨xk.toArray⟩, .int .i64 xf, .int .i64 xt] 61] := H2
  clear hb hb2 hw2 H0 H1
  have c0 := H2.cell 1 0 rfl rfl
  have c1 := H2.cell 1 1 rfl rfl
  have c2 := H2.cell 1 2 rfl rfl
  have hk : rx = false ∨ (rx = true ∧ ry = false) ∨ (rx = true ∧ ry = true ∧ z1 = false) ∨ (rx = true ∧ ry = true ∧ z1 = true ∧ z2 = false) ∨ (rx = true ∧ ry = true ∧ z1 = true ∧ z2 = true) := by
    cases rx <;> cases ry <;> cases z1 <;> cases z2 <;> simp
  rcases hk with rfl | hk
  · go_wp2_with (go_at_call 146; go_must (refine (St.callPast (kx _) H2).mono ?_; rintro e w7 ⟨rfl, H4⟩))
    go_ret
    rw [hr.out]
    exact ⟨ret_bool (by simp), H4.below (Nat.le_refl _) (fun _ h => h.elim)⟩
  · rcases hk with ⟨rfl, rfl⟩ | ⟨rfl, rfl, rfl⟩ | ⟨rfl, rfl, rfl, rfl⟩ | ⟨rfl, rfl, rfl, rfl⟩
    all_goals
      go_wp2_with (first
        | (go_at_call 146; refine (St.callPast (ky _) H3).mono ?_; rintro e w8 ⟨rfl, H4⟩; have c0 := H4.cell 1 0 rfl rfl; have c1 := H4.cell 1 1 rfl rfl; have c2 := H4.cell 1 2 rfl rfl; have d0 := H4.cell 0 0 rfl rfl; have d1 := H4.cell 0 1 rfl rfl; have d2 := H4.cell 0 2 rfl rfl)
        | (go_at_call 146; go_must (refine (St.callPast (kx _) H2).mono ?_; rintro e w7 ⟨rfl, H3⟩; have d0 := H3.cell 0 0 rfl rfl; have d1 := H3.cell 0 1 rfl rfl; have d2 := H3.cell 0 2 rfl rfl)))
      go_ret
      rw [hr.out]
      exact ⟨ret_bool (by simp), H4.below (Nat.le_refl _) (fun _ h => h.elim)⟩

end Go.Proofs.YtiglgfonhdfpmaaGreat

/- sess: which lists are settled. -/
set_option linter.unusedVariables false
set_option linter.unusedSimpArgs false
namespace Go.Proofs.YtiglgfonhdfpmaaGreat
open Go.RowKit

def goodAt (l : List Wd) (k : Nat) : Prop := ∀ x, l[k]? = some x → x.right = true ∧ ∀ j y, j + 1 = k → l[j]? = some y → y.place x < 0 ∧ y.joins x = false
def Stl (l : List Wd) : Prop := ∀ k, goodAt l k
noncomputable def stl (l : List Wd) : Bool := @decide (Stl l) (Classical.propDecidable _)
theorem stl_true {l : List Wd} : stl l = true ↔ Stl l := by unfold stl; simp
theorem stl_false {l : List Wd} : stl l = false ↔ ¬ Stl l := by unfold stl; simp
theorem goodAt_last {l : List Wd} (h : ∀ k, k < l.length → goodAt l k) : Stl l := fun k => by
  by_cases hk : k < l.length
  · exact h k hk
  · intro x hx
    rw [List.getElem?_eq_none (by omega)] at hx
    cases hx

set_option maxHeartbeats 4000000 in
set_option maxRecDepth 100000 in
theorem sess_settled {v : Value} {l : List Wd} (w : World) (hv : WdsRO w v l) (hl : l.length ≤ 9223372036854775807) :
    Calls Tryz.prog 78 #[v] w fun e w' => e = .returned (.bool (stl l)) ∧ Below w.heap.size w w' := by
  obtain ⟨ao, cap, rfl, hcap, hfit, hic⟩ := hv
  have H0 : St (fun _ => False) w w [] := St.nil _ w
  go_enter Tryz.func78, Tryz.ntmps78
  go_upto_block 1 with (fail)
  go_loopw [3, 7] (fun _ j wr => ∃ (i : Nat), i ≤ l.length ∧ j = .int .i64 i ∧ Hid (∀ k, k < i → goodAt l k) ∧ St (fun _ => False) w wr []) (fun _ j _ => l.length - (intOf j).toNat)
  case atStart => exact ⟨0, by omega, rfl, Lib.hid (fun k hk => absurd hk (by omega)), H0⟩
  case round =>
    clear H0
    obtain ⟨i, hi, rfl, hg, HM⟩ := hrel
    by_cases hlt : i < l.length
    · obtain ⟨b, o, rfl, hb, hc⟩ := hic (by intro e; rw [e] at hlt; simp at hlt)
      obtain ⟨x, hx⟩ : ∃ x, l[i]? = some x := ⟨_, List.getElem?_eq_getElem hlt⟩
      have hxf := hfit x (List.mem_of_getElem? hx)
      have g1 := hc i x hx
      obtain ⟨q0, q1, q2⟩ := wd_cells g1 (HM.kept.block b hb id)
      have kr := fun w' => wd_right x hxf w'
      have hxh := Lib.hid hx
      obtain ⟨r, hr⟩ : ∃ r, x.right = r := ⟨_, rfl⟩
      rw [hr] at kr
      have hrh := Lib.hid hr
      have hcs : r = false ∨ (r = true ∧ (decide ((0 : Int) < (i : Int)) = false ∧ decide (0 < i) = false)) ∨ (r = true ∧ ∃ y i0, l[i0]? = some y ∧ i0 + 1 = i) := by
        cases r with
        | false => exact .inl rfl
        | true =>
          by_cases h0 : i = 0
          · exact .inr (.inl ⟨rfl, by simp; omega, by simp; omega⟩)
          · exact .inr (.inr ⟨rfl, l[i - 1], i - 1, List.getElem?_eq_getElem (by omega), by omega⟩)
      have hnx : x.right = true → (∀ i0 y, i0 + 1 = i → l[i0]? = some y → y.place x < 0 ∧ y.joins x = false) → ∀ k, k < i + 1 → goodAt l k := by
        intro h1 h2 k hk
        by_cases e : k = i
        · subst e
          intro x' hx'
          rw [hx] at hx'
          obtain rfl := Option.some.inj hx'
          exact ⟨h1, fun j y hj hy => h2 j y hj hy⟩
        · exact hg.out k (by omega)
      have hnxh := Lib.hid hnx
      have hfith := Lib.hid hfit
      have hch := Lib.hid hc
      clear hr hnx hx hc hic hfit hg
      obtain ⟨xk, xf, xt⟩ := x
      unfold wdV wdC textV at kr
      simp only at q0 q1 q2 kr
      unfold textV at q0
      have HA : St (fun _ => False) w _ [_] := HM.allocAt rfl #[.string ⟨xk.toArray⟩, .int .i64 xf, .int .i64 xt] 61
      go_upto_region 4 with (fail)
      obtain ⟨wb, hwb⟩ : ∃ wb, wr.alloc (.cells #[.string ⟨xk.toArray⟩, .int .i64 xf, .int .i64 xt] 61) = wb := ⟨_, rfl⟩
      obtain ⟨xb, hxb⟩ : ∃ xb, wr.heap.size = xb := ⟨_, rfl⟩
      rw [hwb, hxb] at HA
      try rw [hwb]
      try simp only [hxb]
      have HA2 : St (fun _ => False) w wb [Blk xb #[.string ⟨xk.toArray⟩, .int .i64 xf, .int .i64 xt] 61] := HA
      clear hwb hxb q0 q1 q2 HM HA
      rcases hcs with rfl | ⟨rfl, z1, z3⟩ | ⟨rfl, y, i0, hy, hii⟩
      · refine wp_calm (fun w' => St (fun _ => False) w w' [Blk xb #[.string ⟨xk.toArray⟩, .int .i64 xf, .int .i64 xt] 61]) (by kernel_rfl) (by kernel_rfl) (HA2.drew) ?_
        iterate 26 first
          | (apply calm_pass
             · rfl
             intro K hK
             go_simp
             refine hK _ ?_
             clear hK K)
          | (apply calm_step
             · rfl
             · intro w1 h1
               have d0 := h1.cell 0 0 rfl rfl
               have d1 := h1.cell 0 1 rfl rfl
               have d2 := h1.cell 0 2 rfl rfl
               first
                 | (go_simp
                    first
                      | rfl
                      | exact ⟨rfl, h1⟩
                      | (go_at_call 146; with_reducible exact St.callPast (kr w1) h1)
                   )
             intro K hK
             go_simp
             refine hK _ ?_
             clear hK K)
        refine calm_nil ?_
        intro w5 H5
        go_wp2
        go_ret
        have hno : stl l = false := stl_false.2 (fun h => by have := (h i _ hxh.out).1; rw [hrh.out] at this; cases this)
        rw [hno]
        exact ⟨rfl, H5.below (Nat.le_refl _) (fun _ h => h.elim)⟩
      · refine wp_calm (fun w' => St (fun _ => False) w w' [Blk xb #[.string ⟨xk.toArray⟩, .int .i64 xf, .int .i64 xt] 61]) (by kernel_rfl) (by kernel_rfl) (HA2.drew) ?_
        iterate 26 first
          | (apply calm_pass
             · rfl
             intro K hK
             go_simp
             refine hK _ ?_
             clear hK K)
          | (apply calm_step
             · rfl
             · intro w1 h1
               have d0 := h1.cell 0 0 rfl rfl
               have d1 := h1.cell 0 1 rfl rfl
               have d2 := h1.cell 0 2 rfl rfl
               first
                 | (go_simp
                    first
                      | rfl
                      | exact ⟨rfl, h1⟩
                      | (go_at_call 146; with_reducible exact St.callPast (kr w1) h1)
                   )
             intro K hK
             go_simp
             refine hK _ ?_
             clear hK K)
        refine calm_nil ?_
        intro w5 H5
        go_wp2
        go_roundw
        case rel => exact ⟨i + 1, by omega, by go_num, Lib.hid (hnxh.out hrh.out (fun i0 y h _ => by simp at z3; omega)), St.tail H5⟩
        case measure => simp [intOf]; omega
      · have hyf := hfith.out y (List.mem_of_getElem? hy)
        have g2 := hch.out i0 y hy
        have kp := fun w' => wd_place y ⟨xk, xf, xt⟩ w'
        have kj := fun w' => wd_joins y ⟨xk, xf, xt⟩ hyf hxf w'
        have hyx : Hid (∀ i1 y1, i1 + 1 = i → l[i1]? = some y1 → i1 = i0 ∧ y1 = y) := Lib.hid (fun i1 y1 h1 h2 => by
          obtain rfl : i1 = i0 := by omega
          rw [hy] at h2
          exact ⟨rfl, (Option.some.inj h2).symm⟩)
        have hyh := Lib.hid hy
        have hiih := Lib.hid hii
        obtain ⟨P, hP⟩ : ∃ P, y.place ⟨xk, xf, xt⟩ = P := ⟨_, rfl⟩
        obtain ⟨J, hJ⟩ : ∃ J, y.joins ⟨xk, xf, xt⟩ = J := ⟨_, rfl⟩
        rw [hP] at kp
        rw [hJ] at kj
        have hPh := Lib.hid hP
        have hJh := Lib.hid hJ
        have wi : IntKind.i64.wrap ((i : Int) - 1) = (i0 : Int) := by rw [IntKind.wrap_i64]; omega
        have z1 : decide ((0 : Int) < (i : Int)) = true := by simp; omega
        have z3 : decide (0 < i) = true := by simp; omega
        have z2 : (i0 : Int) < (l.length : Int) := by omega
        have z2' : i0 < l.length := by omega
        clear hii hy hP hJ
        obtain ⟨yk, yf, yt⟩ := y
        unfold wdV wdC textV at kp kj
        simp only at kp kj
        by_cases hp0 : 0 ≤ P
        · have hp1 : ¬ P < 0 := by omega
          refine wp_calm (fun w' => St (fun _ => False) w w' [Blk xb #[.string ⟨xk.toArray⟩, .int .i64 xf, .int .i64 xt] 61]) (by kernel_rfl) (by kernel_rfl) (HA2.drew) ?_
          iterate 26 first
            | (apply calm_pass
               · rfl
               intro K hK
               go_simp
               refine hK _ ?_
               clear hK K)
            | (apply calm_step
               · rfl
               · intro w1 h1
                 have d0 := h1.cell 0 0 rfl rfl
                 have d1 := h1.cell 0 1 rfl rfl
                 have d2 := h1.cell 0 2 rfl rfl
                 obtain ⟨p0, p1, p2⟩ := wd_cells g2 (h1.kept.block b hb id)
                 simp only at p0 p1 p2
                 unfold textV at p0
                 first
                   | (go_simp
                      first
                        | rfl
                        | exact ⟨rfl, h1⟩
                        | (go_at_call 146; with_reducible exact St.callPast (kr w1) h1)
                        | (go_at_call 77; with_reducible exact St.callPast (kp w1) h1)
                        | (go_at_call 147; with_reducible exact St.callPast (kj w1) h1)
                     )
               intro K hK
               go_simp
               refine hK _ ?_
               clear hK K)
          refine calm_nil ?_
          intro w5 H5
          go_wp2
          go_ret
          have hno : stl l = false := stl_false.2 (fun h => by
            have := ((h i _ hxh.out).2 i0 _ hiih.out hyh.out).1
            rw [hPh.out] at this
            omega)
          rw [hno]
          exact ⟨rfl, H5.below (Nat.le_refl _) (fun _ h => h.elim)⟩
        · have hp1 : P < 0 := by omega
          cases J with
          | true =>
            refine wp_calm (fun w' => St (fun _ => False) w w' [Blk xb #[.string ⟨xk.toArray⟩, .int .i64 xf, .int .i64 xt] 61]) (by kernel_rfl) (by kernel_rfl) (HA2.drew) ?_
            iterate 26 first
              | (apply calm_pass
                 · rfl
                 intro K hK
                 go_simp
                 refine hK _ ?_
                 clear hK K)
              | (apply calm_step
                 · rfl
                 · intro w1 h1
                   have d0 := h1.cell 0 0 rfl rfl
                   have d1 := h1.cell 0 1 rfl rfl
                   have d2 := h1.cell 0 2 rfl rfl
                   obtain ⟨p0, p1, p2⟩ := wd_cells g2 (h1.kept.block b hb id)
                   simp only at p0 p1 p2
                   unfold textV at p0
                   first
                     | (go_simp
                        first
                          | rfl
                          | exact ⟨rfl, h1⟩
                          | (go_at_call 146; with_reducible exact St.callPast (kr w1) h1)
                          | (go_at_call 77; with_reducible exact St.callPast (kp w1) h1)
                          | (go_at_call 147; with_reducible exact St.callPast (kj w1) h1)
                       )
                 intro K hK
                 go_simp
                 refine hK _ ?_
                 clear hK K)
            refine calm_nil ?_
            intro w5 H5
            go_wp2
            go_ret
            have hno : stl l = false := stl_false.2 (fun h => by
              have := ((h i _ hxh.out).2 i0 _ hiih.out hyh.out).2
              rw [hJh.out] at this
              cases this)
            rw [hno]
            exact ⟨rfl, H5.below (Nat.le_refl _) (fun _ h => h.elim)⟩
          | false =>
            refine wp_calm (fun w' => St (fun _ => False) w w' [Blk xb #[.string ⟨xk.toArray⟩, .int .i64 xf, .int .i64 xt] 61]) (by kernel_rfl) (by kernel_rfl) (HA2.drew) ?_
            iterate 26 first
              | (apply calm_pass
                 · rfl
                 intro K hK
                 go_simp
                 refine hK _ ?_
                 clear hK K)
              | (apply calm_step
                 · rfl
                 · intro w1 h1
                   have d0 := h1.cell 0 0 rfl rfl
                   have d1 := h1.cell 0 1 rfl rfl
                   have d2 := h1.cell 0 2 rfl rfl
                   obtain ⟨p0, p1, p2⟩ := wd_cells g2 (h1.kept.block b hb id)
                   simp only at p0 p1 p2
                   unfold textV at p0
                   first
                     | (go_simp
                        first
                          | rfl
                          | exact ⟨rfl, h1⟩
                          | (go_at_call 146; with_reducible exact St.callPast (kr w1) h1)
                          | (go_at_call 77; with_reducible exact St.callPast (kp w1) h1)
                          | (go_at_call 147; with_reducible exact St.callPast (kj w1) h1)
                       )
                 intro K hK
                 go_simp
                 refine hK _ ?_
                 clear hK K)
            refine calm_nil ?_
            intro w5 H5
            go_wp2
            go_roundw
            case rel => exact ⟨i + 1, by omega, by go_num, Lib.hid (hnxh.out hrh.out (fun i1 y1 h1 h2 => by obtain ⟨rfl, rfl⟩ := hyx.out i1 y1 h1 h2; rw [hPh.out, hJh.out]; exact ⟨hp1, rfl⟩)), St.tail H5⟩
            case measure => simp [intOf]; omega
    · obtain rfl : i = l.length := by omega
      have hyes : stl l = true := stl_true.2 (goodAt_last hg.out)
      have hyh := Lib.hid hyes
      clear hyes
      go_wp2
      go_ret
      rw [hyh.out]
      exact ⟨rfl, HM.below (Nat.le_refl _) (fun _ h => h.elim)⟩
end Go.Proofs.YtiglgfonhdfpmaaGreat

/- Windows: laws of their places, of settled lists, of taking one in. Plain laws. -/
set_option linter.unusedVariables false
set_option linter.unusedSimpArgs false
namespace Go.Proofs.YtiglgfonhdfpmaaGreat
open Go.RowKit

theorem cb_zero : ∀ (a b : List UInt8), Lib.compareBytes a b = 0 ↔ a = b
  | [], [] => by simp [Lib.compareBytes]
  | [], _ :: _ => by simp [Lib.compareBytes]
  | _ :: _, [] => by simp [Lib.compareBytes]
  | x :: a, y :: b => by
    unfold Lib.compareBytes
    by_cases h1 : x < y
    · have : x ≠ y := fun e => by subst e; exact absurd h1 (UInt8.lt_irrefl x)
      simp [h1, this]
    · by_cases h2 : y < x
      · have : x ≠ y := fun e => by subst e; exact absurd h2 (UInt8.lt_irrefl x)
        simp [h1, h2, this]
      · have e : x = y := UInt8.le_antisymm (UInt8.not_lt.1 h2) (UInt8.not_lt.1 h1)
        simp [e, cb_zero a b]
theorem cb_swap : ∀ (a b : List UInt8), Lib.compareBytes b a = - Lib.compareBytes a b
  | [], [] => by simp [Lib.compareBytes]
  | [], _ :: _ => by simp [Lib.compareBytes]
  | _ :: _, [] => by simp [Lib.compareBytes]
  | x :: a, y :: b => by
    unfold Lib.compareBytes
    by_cases h1 : x < y
    · have h2 : ¬ y < x := UInt8.lt_asymm h1
      simp [h1, h2]
    · by_cases h2 : y < x
      · simp [h1, h2]
      · simp [h1, h2, cb_swap a b]
theorem cb_trans : ∀ (a b c : List UInt8), Lib.compareBytes a b ≤ 0 → Lib.compareBytes b c ≤ 0 → Lib.compareBytes a c ≤ 0
  | [], _, [] => by simp [Lib.compareBytes]
  | [], _, _ :: _ => by simp [Lib.compareBytes]
  | _ :: _, [], _ => by simp [Lib.compareBytes]
  | x :: a, y :: b, [] => by simp [Lib.compareBytes]
  | x :: a, y :: b, z :: c => by
    have ih := cb_trans a b c
    unfold Lib.compareBytes
    intro h1 h2
    by_cases hxy : x < y
    · by_cases hyz : y < z
      · simp [UInt8.lt_trans hxy hyz]
      · by_cases hzy : z < y
        · simp [hyz, hzy] at h2
        · have e : y = z := UInt8.le_antisymm (UInt8.not_lt.1 hzy) (UInt8.not_lt.1 hyz)
          subst e
          simp [hxy]
    · by_cases hyx : y < x
      · simp [hxy, hyx] at h1
      · have e : x = y := UInt8.le_antisymm (UInt8.not_lt.1 hyx) (UInt8.not_lt.1 hxy)
        subst e
        by_cases hyz : x < z
        · simp [hyz]
        · by_cases hzy : z < x
          · simp [hyz, hzy] at h2
          · simp only [hxy, if_false] at h1
            simp only [hyz, hzy, if_false] at h2 ⊢
            exact ih h1 h2
theorem ci_zero {a b : Int} : Lib.compareInt a b = 0 ↔ a = b := by
  unfold Lib.compareInt
  split
  · simp; omega
  · split <;> simp <;> omega
theorem ci_neg {a b : Int} : Lib.compareInt a b < 0 ↔ a < b := by
  unfold Lib.compareInt
  split
  · simp; omega
  · split <;> simp <;> omega
theorem ci_swap {a b : Int} : Lib.compareInt b a = - Lib.compareInt a b := by
  unfold Lib.compareInt
  by_cases h1 : a < b
  · have h2 : ¬ b < a := by omega
    simp [h1, h2]
  · by_cases h2 : b < a
    · simp [h1, h2]
    · simp [h1, h2]

theorem place_neg {a b : Wd} : a.place b < 0 ↔ Lib.compareBytes a.key b.key < 0 ∨ (a.key = b.key ∧ (a.frm < b.frm ∨ (a.frm = b.frm ∧ a.to < b.to))) := by
  unfold Wd.place
  by_cases h1 : Lib.compareBytes a.key b.key = 0
  · have e := (cb_zero _ _).1 h1
    rw [if_neg (by simpa using h1)]
    by_cases h2 : Lib.compareInt a.frm b.frm = 0
    · have e2 := ci_zero.1 h2
      rw [if_neg (by simpa using h2), ci_neg]
      constructor
      · exact fun h => .inr ⟨e, .inr ⟨e2, h⟩⟩
      · rintro (h | ⟨_, h | h⟩)
        · omega
        · omega
        · exact h.2
    · have e2 := fun h => h2 (ci_zero.2 h)
      rw [if_pos h2, ci_neg]
      constructor
      · exact fun h => .inr ⟨e, .inl h⟩
      · rintro (h | ⟨_, h | h⟩)
        · omega
        · exact h
        · exact absurd h.1 e2
  · have e := fun h => h1 ((cb_zero _ _).2 h)
    rw [if_pos h1]
    constructor
    · exact fun h => .inl h
    · rintro (h | h)
      · exact h
      · exact absurd h.1 e
theorem place_zero {a b : Wd} : a.place b = 0 ↔ a = b := by
  constructor
  · intro h
    unfold Wd.place at h
    by_cases h1 : Lib.compareBytes a.key b.key = 0
    · rw [if_neg (by simpa using h1)] at h
      by_cases h2 : Lib.compareInt a.frm b.frm = 0
      · rw [if_neg (by simpa using h2)] at h
        cases a
        cases b
        simp only [Wd.mk.injEq]
        exact ⟨(cb_zero _ _).1 h1, ci_zero.1 h2, ci_zero.1 h⟩
      · rw [if_pos h2] at h
        exact absurd h h2
    · rw [if_pos h1] at h
      exact absurd h h1
  · rintro rfl
    unfold Wd.place
    rw [if_neg (by simp [(cb_zero a.key a.key).2 rfl]), if_neg (by simp [(ci_zero (a := a.frm)).2 rfl]), ci_zero]
theorem place_swap (a b : Wd) : b.place a = - a.place b := by
  unfold Wd.place
  rw [cb_swap a.key b.key, ci_swap (a := a.frm), ci_swap (a := a.to)]
  by_cases h1 : Lib.compareBytes a.key b.key = 0
  · by_cases h2 : Lib.compareInt a.frm b.frm = 0
    · simp [h1, h2]
    · simp [h1, h2]
  · simp [h1]
theorem place_trans {a b c : Wd} (h1 : a.place b < 0) (h2 : b.place c < 0) : a.place c < 0 := by
  rw [place_neg] at h1 h2 ⊢
  have s1 := cb_swap a.key c.key
  have t1 := cb_trans c.key a.key b.key
  have t2 := cb_trans b.key c.key a.key
  have t3 := cb_trans a.key b.key c.key
  have w1 := cb_swap a.key b.key
  have w2 := cb_swap b.key c.key
  rcases h1 with h1 | ⟨e1, h1⟩
  · rcases h2 with h2 | ⟨e2, h2⟩
    · refine .inl ?_
      by_cases hz : Lib.compareBytes a.key c.key = 0
      · have := t1 (by omega) (by omega)
        omega
      · have := t3 (by omega) (by omega)
        omega
    · rw [← e2]; exact .inl h1
  · rw [e1]
    rcases h2 with h2 | ⟨e2, h2⟩
    · exact .inl h2
    · exact .inr ⟨e2, by omega⟩

theorem right_iff {x : Wd} : x.right = true ↔ nameB x.key = true ∧ 0 ≤ x.frm ∧ x.frm ≤ 1099511627776 ∧ x.frm < x.to ∧ x.to ≤ 4398046511104 := by
  simp [Wd.right, and_assoc]
theorem joins_iff {a b : Wd} : a.joins b = true ↔ a.right = true ∧ b.right = true ∧ a.key = b.key ∧ a.frm ≤ b.to ∧ b.frm ≤ a.to := by
  simp [Wd.joins, and_assoc]
theorem joins_swap (a b : Wd) : a.joins b = b.joins a := by
  rw [Bool.eq_iff_iff, joins_iff, joins_iff]
  exact ⟨fun ⟨h1, h2, h3, h4, h5⟩ => ⟨h2, h1, h3.symm, h5, h4⟩, fun ⟨h1, h2, h3, h4, h5⟩ => ⟨h2, h1, h3.symm, h5, h4⟩⟩
/-- Of two neighbours that do not join and a third behind them: neither do the outer ones. -/
theorem apart_trans {a b c : Wd} (hb : b.right = true) (h1 : a.place b < 0 ∧ a.joins b = false) (h2 : b.place c < 0 ∧ b.joins c = false) : a.joins c = false := by
  rw [Bool.eq_false_iff]
  intro hj
  obtain ⟨ra, rc, ek, j1, j2⟩ := joins_iff.1 hj
  have p1 := place_neg.1 h1.1
  have p2 := place_neg.1 h2.1
  have s1 := cb_swap a.key b.key
  have s2 := cb_swap b.key c.key
  have ekb : a.key = b.key := by
    rcases p1 with p1 | p1
    · exfalso
      rw [ek] at p1
      rcases p2 with p2 | p2
      · have := cb_swap b.key c.key
        omega
      · rw [p2.1, (cb_zero c.key c.key).2 rfl] at p1
        omega
    · exact p1.1
  have e2 : b.key = c.key := ekb.symm.trans ek
  have z1 := (cb_zero a.key b.key).2 ekb
  have z2 := (cb_zero b.key c.key).2 e2
  have nj : ¬ (a.frm ≤ b.to ∧ b.frm ≤ a.to) := fun h => by
    have := joins_iff.2 ⟨ra, hb, ekb, h.1, h.2⟩
    rw [h1.2] at this
    cases this
  have rb := right_iff.1 hb
  have rc2 := right_iff.1 rc
  have q1 : a.frm ≤ b.frm := by
    rcases p1 with p | ⟨_, p⟩ <;> omega
  have q2 : b.frm ≤ c.frm := by
    rcases p2 with p | ⟨_, p⟩ <;> omega
  omega
def aheadW (a b : Wd) : Prop := a.place b < 0 ∧ a.joins b = false
theorem stl_iff {l : List Wd} : Stl l ↔ (∀ x ∈ l, x.right = true) ∧ ∀ (i k : Nat) a b, i < k → l[i]? = some a → l[k]? = some b → aheadW a b := by
  constructor
  · intro h
    have hr : ∀ x ∈ l, x.right = true := fun x hx => by
      obtain ⟨i, hi⟩ := List.getElem?_of_mem hx
      exact (h i x hi).1
    refine ⟨hr, fun i k => ?_⟩
    induction k with
    | zero => intro a b h; omega
    | succ k ih =>
      intro a b hik ha hb
      obtain ⟨c, hc⟩ : ∃ c, l[k]? = some c := ⟨_, List.getElem?_eq_getElem (by have := (List.getElem?_eq_some_iff.1 hb).1; omega)⟩
      have hcb := (h (k + 1) b hb).2 k c rfl hc
      by_cases e : i = k
      · subst e
        rw [ha] at hc
        obtain rfl := Option.some.inj hc
        exact hcb
      · have hac := ih a c (by omega) ha hc
        exact ⟨place_trans hac.1 hcb.1, apart_trans (hr c (List.mem_of_getElem? hc)) hac hcb⟩
  · rintro ⟨h1, h2⟩ k x hx
    exact ⟨h1 x (List.mem_of_getElem? hx), fun j y hj hy => h2 j k y x (by omega) hy hx⟩
theorem stl_pair {l : List Wd} : Stl l ↔ (∀ x ∈ l, x.right = true) ∧ l.Pairwise aheadW := by
  rw [stl_iff]
  constructor
  · rintro ⟨h1, h2⟩
    exact ⟨h1, List.pairwise_iff_getElem.2 fun i j hi hj hij => h2 i j _ _ hij (List.getElem?_eq_getElem hi) (List.getElem?_eq_getElem hj)⟩
  · rintro ⟨h1, h2⟩
    refine ⟨h1, fun i k a b hik ha hb => ?_⟩
    obtain ⟨hi, rfl⟩ := List.getElem?_eq_some_iff.1 ha
    obtain ⟨hk, rfl⟩ := List.getElem?_eq_some_iff.1 hb
    exact List.pairwise_iff_getElem.1 h2 i k hi hk hik

/-! Taking one in. -/
def grow (b o : Wd) : Wd := ⟨b.key, min b.frm o.frm, max b.to o.to⟩
structure TakeS where
  out : List Wd
  gave : List Int
  became : Wd
  n : Int
def takeStep (x : Wd) (s : TakeS) (o : Wd) : TakeS := if o.joins x = true then ⟨s.out, s.gave ++ [s.n], grow s.became o, s.n + 1⟩ else ⟨s.out ++ [o], s.gave, s.became, s.n + 1⟩
def takeF (l : List Wd) (x : Wd) : TakeS := l.foldl (takeStep x) ⟨[], [], x, 0⟩
theorem takeF_snoc (l : List Wd) (o x : Wd) : takeF (l ++ [o]) x = takeStep x (takeF l x) o := by simp [takeF]
def outOf (l : List Wd) (x : Wd) : List Wd := l.filter (fun o => !o.joins x)
def becOf (l : List Wd) (x : Wd) : Wd := (l.filter (fun o => o.joins x)).foldl grow x
theorem snoc_ind {α : Type} {p : List α → Prop} (h0 : p []) (hs : ∀ l x, p l → p (l ++ [x])) : ∀ l, p l := by
  intro l
  rw [← List.reverse_reverse l]
  induction l.reverse with
  | nil => exact h0
  | cons x r ih => rw [List.reverse_cons]; exact hs _ _ ih
theorem takeF_n (l : List Wd) (x : Wd) : (takeF l x).n = l.length := by
  refine snoc_ind (p := fun l => (takeF l x).n = l.length) rfl (fun l o ih => ?_) l
  rw [takeF_snoc, takeStep]
  split <;> simp [ih]
theorem takeF_out (l : List Wd) (x : Wd) : (takeF l x).out = outOf l x := by
  refine snoc_ind (p := fun l => (takeF l x).out = outOf l x) rfl (fun l o ih => ?_) l
  rw [takeF_snoc, takeStep, outOf, List.filter_append]
  split
  · rename_i h; simp [ih, h, outOf]
  · rename_i h; simp [ih, h, outOf]
theorem takeF_bec (l : List Wd) (x : Wd) : (takeF l x).became = becOf l x := by
  refine snoc_ind (p := fun l => (takeF l x).became = becOf l x) rfl (fun l o ih => ?_) l
  rw [takeF_snoc, takeStep, becOf, List.filter_append, List.foldl_append]
  split
  · rename_i h; simp [ih, h, becOf]
  · rename_i h; simp [ih, h, becOf]
theorem takeF_len (l : List Wd) (x : Wd) : (takeF l x).out.length + (takeF l x).gave.length = l.length := by
  refine snoc_ind (p := fun l => (takeF l x).out.length + (takeF l x).gave.length = l.length) rfl (fun l o ih => ?_) l
  rw [takeF_snoc, takeStep]
  split <;> simp <;> omega
/-- What it became: the same key, right, and it holds the window taken in. -/
theorem bec_law {x : Wd} (hx : x.right = true) : ∀ (l : List Wd), (becOf l x).right = true ∧ (becOf l x).key = x.key ∧ (becOf l x).frm ≤ x.frm ∧ x.to ≤ (becOf l x).to := by
  intro l
  have key : ∀ (m : List Wd), (∀ o ∈ m, o.joins x = true) → ∀ b : Wd, (b.right = true ∧ b.key = x.key ∧ b.frm ≤ x.frm ∧ x.to ≤ b.to) → ((m.foldl grow b).right = true ∧ (m.foldl grow b).key = x.key ∧ (m.foldl grow b).frm ≤ x.frm ∧ x.to ≤ (m.foldl grow b).to) := by
    intro m
    induction m with
    | nil => exact fun _ b h => h
    | cons o m ih =>
      intro hm b hb
      refine ih (fun o ho => hm o (by simp [ho])) (grow b o) ?_
      obtain ⟨ro, _, _, _, _⟩ := joins_iff.1 (hm o (by simp))
      have ro := right_iff.1 ro
      obtain ⟨rb, kb, fb, tb⟩ := hb
      have rb := right_iff.1 rb
      refine ⟨right_iff.2 ⟨rb.1, ?_⟩, kb, ?_, ?_⟩
      · simp only [grow]; omega
      · simp only [grow]; omega
      · simp only [grow]; omega
  exact key _ (fun o ho => by simpa using (List.mem_filter.1 ho).2) x ⟨hx, rfl, Int.le_refl _, Int.le_refl _⟩
def posW (l : List Wd) (b : Wd) : Nat := (l.takeWhile fun y => decide (y.place b < 0)).length
theorem posW_le (l : List Wd) (b : Wd) : posW l b ≤ l.length := (List.takeWhile_sublist _).length_le
theorem posW_lo {l : List Wd} {b : Wd} {j : Nat} {y : Wd} (hj : j < posW l b) (hy : l[j]? = some y) : y.place b < 0 := by
  have h1 : (l.takeWhile fun y => decide (y.place b < 0))[j]? = some y := by
    have e := List.takeWhile_append_dropWhile (p := fun y => decide (y.place b < 0)) (l := l)
    rw [← e, List.getElem?_append_left hj] at hy
    exact hy
  have := List.all_eq_true.1 (List.all_takeWhile (p := fun y => decide (y.place b < 0)) (l := l)) y (List.mem_of_getElem? h1)
  simpa using this
theorem posW_hi {l : List Wd} {b : Wd} (hl : l.Pairwise aheadW) {j : Nat} {y : Wd} (hj : posW l b ≤ j) (hy : l[j]? = some y) : 0 ≤ y.place b := by
  have e := List.takeWhile_append_dropWhile (p := fun y => decide (y.place b < 0)) (l := l)
  rw [← e, List.getElem?_append_right hj] at hy
  obtain ⟨z, d, hd⟩ : ∃ z d, l.dropWhile (fun y => decide (y.place b < 0)) = z :: d := by
    cases h : l.dropWhile (fun y => decide (y.place b < 0)) with
    | nil => rw [h] at hy; simp at hy
    | cons z d => exact ⟨z, d, rfl⟩
  have hz : ¬ z.place b < 0 := by
    have := List.head?_dropWhile_not (p := fun y => decide (y.place b < 0)) l
    rw [hd] at this
    simpa using this
  rw [hd] at hy
  have hp : (z :: d).Pairwise aheadW := by rw [← hd]; exact hl.sublist (List.dropWhile_sublist _)
  obtain ⟨i, hi⟩ : ∃ i, j - (l.takeWhile fun y => decide (y.place b < 0)).length = i := ⟨_, rfl⟩
  rw [hi] at hy
  cases i with
  | zero =>
    obtain rfl : z = y := by simpa using hy
    omega
  | succ i =>
    have hm : y ∈ d := List.mem_of_getElem? (by simpa using hy)
    have hzy := (List.pairwise_cons.1 hp).1 y hm
    refine Classical.byContradiction fun hc => hz (place_trans hzy.1 (by omega))
def insW (l : List Wd) (b : Wd) : List Wd := l.take (posW l b) ++ b :: l.drop (posW l b)
/-- What a settled list and a right window come to. -/
def tookW (l : List Wd) (x : Wd) : List Wd := insW (outOf l x) (becOf l x)
theorem out_pair {l : List Wd} (h : l.Pairwise aheadW) (x : Wd) : (outOf l x).Pairwise aheadW := h.sublist List.filter_sublist
end Go.Proofs.YtiglgfonhdfpmaaGreat

/- slices.Clone and BinarySearchFunc at windows, with Place. -/
set_option linter.unusedVariables false
set_option linter.unusedSimpArgs false
namespace Go.Proofs.YtiglgfonhdfpmaaGreat
open Go.RowKit

def FoundAt (k : Nat) (e : Ending) : Prop := ∃ bv, e = .returned (.tuple #[.int .i64 k, .bool bv])
theorem FoundAt.mk (k : Nat) (bv : Bool) : FoundAt k (.returned (.tuple #[.int .i64 k, .bool bv])) := ⟨bv, rfl⟩
def placeV : Value := .func (.func 77) #[] #[]
set_option maxHeartbeats 4000000 in
set_option maxRecDepth 100000 in
theorem wds_search {v : Value} {l : List Wd} {x : Wd} {w : World} {k : Nat} (hv : WdsRO w v l) (hl : l.length ≤ 4611686018427387904) (hk : k ≤ l.length)
    (hlo : ∀ (j : Nat) y, j < k → l[j]? = some y → y.place x < 0) (hhi : ∀ (j : Nat) y, k ≤ j → l[j]? = some y → 0 ≤ y.place x) :
    Calls Tryz.prog 247 #[v, wdV x, placeV] w fun e w' => FoundAt k e ∧ Below w.heap.size w w' := by
  obtain ⟨ao, cap, rfl, hcap, hfit, hic⟩ := hv
  obtain ⟨xk, xf, xt⟩ := x
  have H0 : St (fun _ => False) w _ [_] := (St.nil (fun _ => False) w).allocAt rfl #[.string ⟨xk.toArray⟩, .int .i64 xf, .int .i64 xt] 61
  have hloh := Lib.hid hlo
  have hhih := Lib.hid hhi
  have hich := Lib.hid hic
  clear hlo hhi hic
  unfold placeV wdV wdC textV
  simp only
  go_enter Tryz.func247, Tryz.ntmps247
  go_upto_region 1 with (fail)
  obtain ⟨wb, hwb⟩ : ∃ wb, w.alloc (.cells #[.string ⟨xk.toArray⟩, .int .i64 xf, .int .i64 xt] 61) = wb := ⟨_, rfl⟩
  obtain ⟨xb, hxb⟩ : ∃ xb, w.heap.size = xb := ⟨_, rfl⟩
  rw [hwb, hxb] at H0
  try rw [hwb]
  try simp only [hxb]
  have H1 : St (fun _ => False) w wb [Blk xb #[.string ⟨xk.toArray⟩, .int .i64 xf, .int .i64 xt] 61] := H0
  have hxbh := Lib.hid hxb
  clear hwb hxb H0
  go_upto_block 1 with (fail)
  go_loopw [9, 10, 11] (fun s u _ wr => ∃ (i j : Nat), s = .int .i64 i ∧ u = .int .i64 j ∧ i ≤ k ∧ k ≤ j ∧ j ≤ l.length ∧ St (fun _ => False) w wr [Blk xb #[.string ⟨xk.toArray⟩, .int .i64 xf, .int .i64 xt] 61]) (fun s u _ _ => (intOf u).toNat - (intOf s).toNat)
  case atStart => exact ⟨0, l.length, rfl, rfl, by omega, hk, by omega, H1⟩
  case round =>
    clear H1
    obtain ⟨i, j, rfl, rfl, hik, hkj, hjl, HM⟩ := hrel
    by_cases hlt : i < j
    · obtain ⟨b, o, rfl, hb, hc⟩ := hich.out (by intro e; rw [e] at hjl; simp at hjl; omega)
      have hhlt : i ≤ (i + j) / 2 ∧ (i + j) / 2 < j := by omega
      have wh : ((i : Int) + (j : Int)) / 2 = (((i + j) / 2 : Nat) : Int) := by omega
      obtain ⟨h, hh⟩ : ∃ h, (i + j) / 2 = h := ⟨_, rfl⟩
      rw [hh] at hhlt wh
      obtain ⟨z, hz⟩ : ∃ z, l[h]? = some z := ⟨_, List.getElem?_eq_getElem (by omega)⟩
      have g1 := hc h z hz
      have kp := fun w' => wd_place z ⟨xk, xf, xt⟩ w'
      have hhn : (h : Int) < (l.length : Int) := by omega
      have hhn' : h < l.length := by omega
      have hzh := Lib.hid hz
      obtain ⟨P, hP⟩ : ∃ P, z.place ⟨xk, xf, xt⟩ = P := ⟨_, rfl⟩
      rw [hP] at kp
      have hPh := Lib.hid hP
      clear hh hz hc hP
      obtain ⟨zk, zf, zt⟩ := z
      unfold wdV wdC textV at kp
      simp only at kp
      go_upto_region 5 with (fail)
      refine wp_calm (fun w' => St (fun _ => False) w w' [Blk xb #[.string ⟨xk.toArray⟩, .int .i64 xf, .int .i64 xt] 61]) (by kernel_rfl) (by kernel_rfl) (HM.drew) ?_
      iterate 8 first
        | (apply calm_pass
           · rfl
           intro K hK
           go_simp
           refine hK _ ?_
           clear hK K)
        | (apply calm_step
           · rfl
           · intro w1 h1
             have d0 := h1.cell 0 0 rfl rfl
             have d1 := h1.cell 0 1 rfl rfl
             have d2 := h1.cell 0 2 rfl rfl
             obtain ⟨p0, p1, p2⟩ := wd_cells g1 (h1.kept.block b hb id)
             unfold textV at p0
             simp only at p0 p1 p2
             first
               | (go_simp
                  first
                    | rfl
                    | exact ⟨rfl, h1⟩
                    | (go_at_call 77; with_reducible exact St.callPast (kp w1) h1)
                 )
           intro K hK
           go_simp
           refine hK _ ?_
           clear hK K)
      refine calm_nil ?_
      intro w2 H2
      clear kp HM
      by_cases hlt2 : P < 0
      · go_wp2
        go_roundw
        case rel =>
          refine ⟨h + 1, j, by go_num, rfl, ?_, by omega, hjl, H2⟩
          refine Classical.byContradiction fun hcc => ?_
          have := hhih.out h _ (by omega) hzh.out
          rw [hPh.out] at this
          omega
        case measure => simp [intOf]; omega
      · go_wp2
        go_roundw
        case rel =>
          refine ⟨i, h, rfl, by go_num, by omega, ?_, by omega, H2⟩
          refine Classical.byContradiction fun hcc => ?_
          have := hloh.out h _ (by omega) hzh.out
          rw [hPh.out] at this
          omega
        case measure => simp [intOf]; omega
    · obtain rfl : i = k := by omega
      obtain rfl : i = j := by omega
      by_cases hil : i < l.length
      · obtain ⟨b, o, rfl, hb, hc⟩ := hich.out (by intro e; rw [e] at hil; simp at hil)
        obtain ⟨z, hz⟩ : ∃ z, l[i]? = some z := ⟨_, List.getElem?_eq_getElem hil⟩
        have g1 := hc i z hz
        have kp := fun w' => wd_place z ⟨xk, xf, xt⟩ w'
        have hil' : (i : Int) < (l.length : Int) := by omega
        obtain ⟨P, hP⟩ : ∃ P, z.place ⟨xk, xf, xt⟩ = P := ⟨_, rfl⟩
        rw [hP] at kp
        clear hz hc hP
        obtain ⟨zk, zf, zt⟩ := z
        unfold wdV wdC textV at kp
        simp only at kp
        go_upto_region 8 with (fail)
        refine wp_calm (fun w' => St (fun _ => False) w w' [Blk xb #[.string ⟨xk.toArray⟩, .int .i64 xf, .int .i64 xt] 61]) (by kernel_rfl) (by kernel_rfl) (HM.drew) ?_
        iterate 16 first
          | (apply calm_pass
             · rfl
             intro K hK
             go_simp
             refine hK _ ?_
             clear hK K)
          | (apply calm_step
             · rfl
             · intro w1 h1
               have d0 := h1.cell 0 0 rfl rfl
               have d1 := h1.cell 0 1 rfl rfl
               have d2 := h1.cell 0 2 rfl rfl
               obtain ⟨p0, p1, p2⟩ := wd_cells g1 (h1.kept.block b hb id)
               unfold textV at p0
               simp only at p0 p1 p2
               first
                 | (go_simp
                    first
                      | rfl
                      | exact ⟨rfl, h1⟩
                      | (go_at_call 77; with_reducible exact St.callPast (kp w1) h1)
                   )
             intro K hK
             go_simp
             refine hK _ ?_
             clear hK K)
        refine calm_nil ?_
        intro w2 H2
        go_wp2
        go_ret2
        exact ⟨FoundAt.mk _ _, H2.below (Nat.le_refl _) (fun _ h => h.elim)⟩
      · have z1 : decide ((i : Int) < (l.length : Int)) = false := by simp; omega
        have z2 : decide (i < l.length) = false := by simp; omega
        go_upto_region 8 with (fail)
        refine wp_calm (fun w' => St (fun _ => False) w w' [Blk xb #[.string ⟨xk.toArray⟩, .int .i64 xf, .int .i64 xt] 61]) (by kernel_rfl) (by kernel_rfl) (HM.drew) ?_
        iterate 16 first
          | (apply calm_pass
             · rfl
             intro K hK
             go_simp
             refine hK _ ?_
             clear hK K)
          | (apply calm_step
             · rfl
             · intro w1 h1
               first
                 | (go_simp
                    first
                      | rfl
                      | exact ⟨rfl, h1⟩
                   )
             intro K hK
             go_simp
             refine hK _ ?_
             clear hK K)
        refine calm_nil ?_
        intro w2 H2
        go_wp2
        go_ret2
        exact ⟨FoundAt.mk _ _, H2.below (Nat.le_refl _) (fun _ h => h.elim)⟩
end Go.Proofs.YtiglgfonhdfpmaaGreat
