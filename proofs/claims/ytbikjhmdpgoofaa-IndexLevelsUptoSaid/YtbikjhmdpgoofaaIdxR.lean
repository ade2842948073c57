/- Records by value: built, laid three in a row. Laws. -/
import Derived.Test.YtbikjhmdpgoofaaIdxF
import Derived.Test.YtbikjhmdpgoofaaScript
import Derived.Great.Walk
namespace Go.Proofs.Ytbikjhmdpgoofaa
open Go.RowKit

theorem run_three_at {P : Program} {w : World} {a : Act} {dst : Option Tmp} {ty' : TypeId} {pos : String} {after : Array Edge} {g : Option (Nat × Bool)} {t : TypeId} {x0 x1 x2 : Operand}
    {e : TypeId} {z : Value} {size bytes : Nat} (ht : P.underlying t = some (.slice e)) (hinfo : (P.info? e).map (fun i => (i.zero, i.size, i.bytes)) = some (some z, size, bytes)) (hzs : 0 < size ∧ size ≤ 6000)
    (h0 : (aggOf (a.eval x0)).size = size) (h1 : (aggOf (a.eval x1)).size = size) (h2 : (aggOf (a.eval x2)).size = size) : (execOp a.eval ⟨dst, .buildSlice t 3 #[(0, x0), (1, x1), (2, x2)], ty', pos, after, g⟩).run P w = .ok (.value (.slice (some ⟨w.heap.size, 0, none⟩) 3 3)) (w.alloc (.cells (aggOf (a.eval x0) ++ aggOf (a.eval x1) ++ aggOf (a.eval x2)) e)) := by
  rw [aggOf_cells] at h0 h1 h2 ⊢
  rw [aggOf_cells, aggOf_cells]
  obtain ⟨i, hi, hz, hs, hb⟩ := info_parts hinfo
  unfold execOp
  simp only [Sem.run_bind, List.map_toArray, List.map_cons, List.map_nil]
  have hf : Instr.fill (fun j => some (j * i.size, i.size)) ((Array.range (3 * i.size)).map (z.cells[· % z.cells.size]!)) [(0, a.eval x0), (1, a.eval x1), (2, a.eval x2)] = some ((a.eval x0).cells ++ (a.eval x1).cells ++ (a.eval x2).cells) := by
    have h := Go.Great.fill_whole (s := i.size) (by rw [hs]; omega) [a.eval x0, a.eval x1, a.eval x2] ((Array.range (3 * i.size)).map (z.cells[· % z.cells.size]!))
      (fun v hv => by
        simp only [List.mem_cons, List.not_mem_nil, or_false] at hv
        rcases hv with rfl | rfl | rfl
        · rw [hs]; exact h0
        · rw [hs]; exact h1
        · rw [hs]; exact h2) (by simp)
    refine h.trans ?_
    simp
  rw [run_buildSlice w t e 3 _ ((a.eval x0).cells ++ (a.eval x1).cells ++ (a.eval x2).cells) i z ht hi hz (by rw [hs]; omega) (by rw [hs]; omega) hf]
  rfl
def zero32 : List Value := List.replicate 32 (.int .u8 0)
def recC (x y z : Value) : List Value := [x, y, z, .int .i64 0] ++ zero32
def adV : Value → Option Addr
  | .slice a _ _ => a
  | _ => none
def capV : Value → Nat
  | .slice _ _ c => c
  | _ => 0
@[go_sem] theorem adV_slice (a : Option Addr) (n c : Nat) : adV (.slice a n c) = a := rfl
@[go_sem] theorem lenV_slice (a : Option Addr) (n c : Nat) : lenV (.slice a n c) = n := rfl
@[go_sem] theorem capV_slice (a : Option Addr) (n c : Nat) : capV (.slice a n c) = c := rfl
@[go_sem] theorem intOf_i64 (n : Int) : intOf (.int .i64 n) = n := rfl
@[go_sem] theorem recC_size (x y z : Value) : (recC x y z).toArray.size = 36 := rfl
@[go_sem] theorem recC_length (x y z : Value) : (recC x y z).length = 36 := rfl
theorem zero32_one : zero32.all Value.oneCell' = true := by decide +kernel
@[go_sem] theorem recC_one (k s : Int) (a : Option Addr) (n c : Nat) : allOne (recC (.int .i64 k) (.int .i64 s) (.slice a n c)).toArray = true := by
  simp only [allOne, recC, List.all_toArray, List.all_append, zero32_one]
  rfl
set_option maxRecDepth 100000 in
theorem built3 (k s : Int) (a : Option Addr) (n c : Nat) : Try.prog.built 82 [(0, .int .i64 k), (1, .int .i64 s), (2, .slice a n c)] = some (recC (.int .i64 k) (.int .i64 s) (.slice a n c)).toArray := by kernel_rfl
set_option maxRecDepth 100000 in
theorem built2 (k s : Int) : Try.prog.built 82 [(0, .int .i64 k), (1, .int .i64 s)] = some (recC (.int .i64 k) (.int .i64 s) (.slice none 0 0)).toArray := by kernel_rfl
theorem run_rec3 {w : World} {a : Act} {dst : Option Tmp} {ty' : TypeId} {pos : String} {after : Array Edge} {g : Option (Nat × Bool)} {x y z : Operand}
    (hx : a.eval x = .int .i64 (intOf (a.eval x))) (hy : a.eval y = .int .i64 (intOf (a.eval y))) (hz : a.eval z = .slice (adV (a.eval z)) (lenV (a.eval z)) (capV (a.eval z))) :
    (execOp a.eval ⟨dst, .build 82 #[(0, x), (1, y), (2, z)], ty', pos, after, g⟩).run Try.prog w = .ok (.value (.agg (recC (a.eval x) (a.eval y) (a.eval z)).toArray)) w := by
  have h := built3 (intOf (a.eval x)) (intOf (a.eval y)) (adV (a.eval z)) (lenV (a.eval z)) (capV (a.eval z))
  rw [← hx, ← hy, ← hz] at h
  refine run_build_at (ps := [(0, a.eval x), (1, a.eval y), (2, a.eval z)]) (cells := (recC (a.eval x) (a.eval y) (a.eval z)).toArray) ?_ h
  simp
theorem run_rec2 {w : World} {a : Act} {dst : Option Tmp} {ty' : TypeId} {pos : String} {after : Array Edge} {g : Option (Nat × Bool)} {x y : Operand}
    (hx : a.eval x = .int .i64 (intOf (a.eval x))) (hy : a.eval y = .int .i64 (intOf (a.eval y))) :
    (execOp a.eval ⟨dst, .build 82 #[(0, x), (1, y)], ty', pos, after, g⟩).run Try.prog w = .ok (.value (.agg (recC (a.eval x) (a.eval y) (.slice none 0 0)).toArray)) w := by
  have h := built2 (intOf (a.eval x)) (intOf (a.eval y))
  rw [← hx, ← hy] at h
  refine run_build_at (ps := [(0, a.eval x), (1, a.eval y)]) (cells := (recC (a.eval x) (a.eval y) (.slice none 0 0)).toArray) ?_ h
  simp

/-- What a call yields, in a region in the order of the text: whatever its contract tells. -/
theorem wpList_callAny {P : Program} {ops : Array Oper} {rest : List Oper} {o : Oper} {a : Act} {w : World} {Q : Exit → Act → World → Prop} (hg : o.guard = none) (d : Option Tmp) (hd : o.dst = d) (f : FuncId) (args : Array Value)
    (hrun : (execOp a.eval o).run P w = .ok (.enter f args) w) (C : Ending → World → Prop) (hc : Calls P f args w C) (h : ∀ e w', C e w' → ∃ v, e = .returned v ∧ wpList P ops Q rest (a.put d v) w') : wpList P ops Q (o :: rest) a w := by
  subst hd
  refine wpList_plain hg fun K hK => ?_
  unfold Oper.wp
  rw [hrun, Oper.upon_enter]
  refine hc.mono fun e w' hh => ?_
  obtain ⟨v, rfl, h2⟩ := h e w' hh
  exact hK _ _ h2
theorem run_load_recV {w : World} {a : Act} {dst : Option Tmp} {ty' : TypeId} {pos : String} {after : Array Edge} {g : Option (Nat × Bool)} {x : Operand} {b : Nat} {cs : List Value} {t : TypeId} (hx : a.eval x = .pointer (some ⟨b, 0, none⟩))
    (hb : w.heap[b]? = some (.cells cs.toArray t (0, 0))) (hn : cs.length = 36) : (execOp a.eval ⟨dst, .load 82 x, ty', pos, after, g⟩).run Try.prog w = .ok (.value (.agg cs.toArray)) w := by
  obtain ⟨q1, q2⟩ := blk_whole hb hn
  have h := run_load_rec (w := w) (a := a) (dst := dst) (ty' := ty') (pos := pos) (after := after) (g := g) (x := x) (by rw [hx]; rfl) (by rw [hx]; exact q2)
  rw [hx] at h
  have h2 : cellsAt w (blockOf (.pointer (some ⟨b, 0, none⟩))) (placeOf (.pointer (some ⟨b, 0, none⟩))) 36 = cs := q1
  rw [h2] at h
  exact h
theorem itms_blk {w : World} {b : Nat} {t : TypeId} {l : List Itm} (hb : w.heap[b]? = some (.cells (l.map fun x => (itmC x).toList).flatten.toArray t (0, 0))) (hf : ∀ x ∈ l, x.fits) : ItmsRO w (.slice (some ⟨b, 0, none⟩) l.length l.length) l := by
  refine ⟨_, _, rfl, Nat.le_refl _, hf, fun _ => ⟨b, 0, rfl, blk_lt hb, fun i x hi j v hj => ?_⟩⟩
  have hk : ∀ y ∈ l.map fun x => (itmC x).toList, y.length = 4 := by
    intro y hy
    obtain ⟨x, _, rfl⟩ := List.mem_map.1 hy
    rfl
  have hi2 : (l.map fun x => (itmC x).toList)[i]? = some (itmC x).toList := by rw [List.getElem?_map, hi]; rfl
  have hj4 : j < 4 := (List.getElem?_eq_some_iff.1 hj).1
  show w.cell? ⟨b, 0 + i * 4 + j, none⟩ = some v
  rw [Nat.zero_add, cell_blk hb]
  simpa using (flat_get hk hi2 hj4).trans hj
theorem rcs_blk {w : World} {b : Nat} {t : TypeId} {l : List Rcd} (hb : w.heap[b]? = some (.cells (l.map fun x => x.cells).flatten.toArray t (0, 0))) (hf : ∀ x ∈ l, x.good w) : RcsRO w (.slice (some ⟨b, 0, none⟩) l.length l.length) l := by
  refine ⟨_, _, rfl, Nat.le_refl _, hf, fun _ => ⟨b, 0, rfl, blk_lt hb, fun i x hi j v hj => ?_⟩⟩
  have hk : ∀ y ∈ l.map fun x => x.cells, y.length = 36 := by
    intro y hy
    obtain ⟨x, hx, rfl⟩ := List.mem_map.1 hy
    exact (hf x hx).1
  have hi2 : (l.map fun x => x.cells)[i]? = some x.cells := by rw [List.getElem?_map, hi]; rfl
  have hj4 : j < 36 := by
    rw [← (hf x (List.mem_of_getElem? hi)).1]
    exact (List.getElem?_eq_some_iff.1 hj).1
  show w.cell? ⟨b, 0 + i * 36 + j, none⟩ = some v
  rw [Nat.zero_add, cell_blk hb]
  simpa using (flat_get hk hi2 hj4).trans hj
/-- The levels as they came back can be read. -/
theorem Cover.ro {w0 w : World} {S : Nat → Prop} {rows L : List SP} {v : Value} {vals : List Value} {lv : List (List Str)} (hc : Cover vals rows lv) (H : St S w0 w (SP.all rows :: Row 67 1 v vals.length vals :: L)) : LvRO (fun _ => False) w v lv := by
  have ho : w.ownsRow 0 67 1 v vals.length vals := H.row 1 rfl
  obtain ⟨ao, cap, rfl, hcap, hg⟩ := slice_form' ho
  refine ⟨ao, cap, by rw [hc.1], fun hne => ?_⟩
  have hl0 : vals.length ≠ 0 := by
    rw [hc.1]
    exact fun h => hne (List.eq_nil_of_length_eq_zero h)
  obtain ⟨g, rfl⟩ := hg hl0
  obtain ⟨g', cap', he, _, hlt⟩ := (own_shape ho).resolve_left (fun h => hl0 h.2)
  cases he
  refine ⟨g, 0, rfl, hlt, id, fun k s hs => ?_⟩
  obtain ⟨u, hu⟩ : ∃ u, vals[k]? = some u := ⟨_, List.getElem?_eq_getElem (by rw [hc.1]; exact (List.getElem?_eq_some_iff.1 hs).1)⟩
  have hr := rows_get H (hc.2 k u s hu hs)
  obtain ⟨ao', cap', rfl, hcap', hg'⟩ := slice_form' hr
  refine ⟨ao', cap', ?_, fun hsn => ?_⟩
  · rw [Nat.zero_add]
    exact own_cell ho hu
  have hl1 : s.length ≠ 0 := fun h => hsn (List.eq_nil_of_length_eq_zero h)
  obtain ⟨g1, rfl⟩ := hg' hl1
  obtain ⟨g2, cap2, he2, _, hlt2⟩ := (own_shape hr).resolve_left (fun h => hl1 h.2)
  cases he2
  refine ⟨g1, 0, rfl, hlt2, id, fun i x hi j z hj => ?_⟩
  have hk : ∀ y ∈ s.map fun x => (strC x).toList, y.length = 4 := by
    intro y hy
    obtain ⟨x, _, rfl⟩ := List.mem_map.1 hy
    rfl
  have hi2 : (s.map fun x => (strC x).toList)[i]? = some (strC x).toList := by rw [List.getElem?_map, hi]; rfl
  have hj4 : j < 4 := (List.getElem?_eq_some_iff.1 hj).1
  show w.cell? ⟨g1, 0 + i * 4 + j, none⟩ = some z
  rw [Nat.zero_add]
  exact own_cell hr ((flat_get hk hi2 hj4).trans hj)

theorem came_run {P : Program} {I : World → Prop} {v : Value} {w : World} {r : Result Next} (h : r = .ok (.value v) w) (hi : I w) : CameTo P I v r := by
  subst h
  exact ⟨rfl, hi⟩

theorem cameV_run {P : Program} {V : Value → (World → Prop) → Prop} {v : Value} {w' : World} {r : Result Next} (h : r = .ok (.value v) w') (hi : ∃ I', V v I' ∧ I' w') : CameV P V r := by
  subst h
  exact hi

end Go.Proofs.Ytbikjhmdpgoofaa
