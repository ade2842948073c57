import Derived.Test.YtaafedpjifaghaaDoorGp1
import Derived.Laws.CopyOwn
import Derived.Deep.MidRow
import Derived.Great.BuildSlice
import Derived.StillTailTactics
import Derived.Laws.Cover3
import Derived.Laws.OwnMore
import Derived.WideShapes
import Derived.Laws.BytesArg
/- Arrays by value in a walk: built, loaded from the middle of a block, copied. Laws over any program. No condition of its own. -/
set_option linter.unusedVariables false
set_option linter.unusedSimpArgs false
namespace Go.Proofs.YtaafedpjifaghaaDoor
open Go.RowKit

section
variable {P : Program} {ops : Array Oper} {w : World}
theorem fill_one (place : Nat → Option (Nat × Nat)) (i off : Nat) (v : Value) (rest : List (Nat × Value)) (cells : Array Value) (hp : place i = some (off, v.cells.size)) (hle : off + v.cells.size ≤ cells.size) :
    Instr.fill place cells ((i, v) :: rest) = Instr.fill place (splice cells.toList off v.cells.toList).toArray rest := by
  conv => lhs; unfold Instr.fill
  rw [hp]
  dsimp only
  rw [if_neg (by simp; omega)]
  congr 1
  obtain ⟨g1, g2⟩ := Great.foldl_set off v.cells.toList 0 cells
  have e : v.cells.zipIdx.foldl (fun cs (x : Value × Nat) => cs.setIfInBounds (off + x.2) x.1) cells = ((v.cells.toList.zipIdx 0).foldl (fun cs (x : Value × Nat) => cs.setIfInBounds (off + x.2) x.1) cells) := by
    rw [← Array.foldl_toList, Array.toList_zipIdx]
  show v.cells.zipIdx.foldl (fun cs (x : Value × Nat) => cs.setIfInBounds (off + x.2) x.1) cells = _
  rw [e]
  apply Array.ext_getElem?
  intro k
  rw [g2 k]
  simp only [splice, Nat.add_zero, List.getElem?_toArray, Array.length_toList]
  by_cases h1 : k < off
  · rw [if_neg (by omega), List.getElem?_append_left (by simp; omega), List.getElem?_take, if_pos h1]; simp
  · rw [List.getElem?_append_right (by simp; omega)]
    have el : (List.take off cells.toList).length = off := by simp; omega
    rw [el]
    by_cases h2 : k < off + v.cells.size
    · rw [if_pos ⟨by omega, by omega, by omega⟩, List.getElem?_append_left (by simp; omega)]
    · rw [if_neg (by omega), List.getElem?_append_right (by simp; omega), List.getElem?_drop]
      simp only [Array.length_toList, Array.getElem?_toList]
      congr 1; omega

/-- An operation that yields a value, as one step of the head of a region that draws. -/
theorem wpStill_val {Q : Act → Prop} {a : Act} {o : Oper} {rest : List Oper} (hgd : o.guard = none) {v : Value} (hrun : (execOp a.eval o).run P w = .ok (.value v) w) (h : wpStill P ops w Q rest (a.put o.dst v)) :
    wpStill P ops w Q (o :: rest) a := by
  refine wpStill_step fun K hK => ?_
  rw [if_pos (by simp [Region.wanted, hgd])]
  show o.stillUpon P a w K ((execOp a.eval o).run P w)
  rw [hrun, Oper.stillUpon_value]
  exact hK _ h
theorem wpStill_load {Q : Act → Prop} {a : Act} {o : Oper} {rest : List Oper} (hgd : o.guard = none) (ty : TypeId) (x : Operand) (ho : o.op = .load ty x)
    (b off : Nat) (hx : a.eval x = .pointer (some ⟨b, off, none⟩)) (cs : List Value) (d : TypeDesc) (hc : w.rangeAt b off cs) (hu : P.underlying ty = some d) (hd : d.isRow = true) (hi : (P.info? ty).map (·.size) = some cs.length)
    (h : wpStill P ops w Q rest (a.put o.dst (.agg cs.toArray))) : wpStill P ops w Q (o :: rest) a := by
  refine wpStill_val hgd ?_ h
  unfold execOp
  simp only [ho, hx, Instr.loadAt, Instr.sureAddr, Sem.run_bind, Sem.run_pure, Result.andThen_ok, run_loadVar_mid w b off ty cs d hc hu hd hi]
theorem wpStill_arrayAt {Q : Act → Prop} {a : Act} {o : Oper} {rest : List Oper} (hgd : o.guard = none) (arr : TypeId) (x : Operand) (ho : o.op = .sliceToArrayPointer arr x) {e : TypeId} {n len cap : Nat} {ad : Option Addr}
    (hx : a.eval x = .slice ad len cap) (hu : P.underlying arr = some (.array n e)) (hn : n ≤ len) (h : wpStill P ops w Q rest (a.put o.dst (.pointer ad))) : wpStill P ops w Q (o :: rest) a := by
  refine wpStill_val hgd ?_ h
  unfold execOp
  simp only [ho, hx, Sem.run_bind, run_arrayAt w arr e n ad len cap hu hn, Result.andThen_ok]
  rfl
/-- A region that draws, its head only reading: the head, then the tail in the order of the text; behind the one draw. -/
theorem wp_tail {id : Nat} {Q : Exit → Act → World → Prop} {a : Act} {l : List Oper} (n : Nat) (hm : P.follows .mixedOrders = true) (hB : Region.lexTailB .any l.toArray n = true)
    (h : wpStill P l.toArray w.drew (fun a' => wpList P l.toArray Q (l.drop n) a' w.drew) (l.take n) a) : (Code.region id l.toArray true).wp P Q a w := wp_region_still_tail n hm hB h
/-! What an operation comes to, as an equation that the walk takes for a rule. -/
theorem wp_val_eq {o : Oper} {a : Act} {K : Act → World → Prop} {Q : Exit → Act → World → Prop} {v : Value} {w' : World} (hrun : (execOp a.eval o).run P w = .ok (.value v) w') : Oper.wp P o a w K Q = K (a.put o.dst v) w' := by
  unfold Oper.wp; rw [hrun]; rfl
theorem wp_load_eq {a : Act} {K : Act → World → Prop} {Q : Exit → Act → World → Prop} {dst : Option Tmp} {ty' : TypeId} {pos : String} {after : Array Edge} (t : TypeId) (x : Operand) (b off : Nat) (cs : List Value) (d : TypeDesc)
    (hx : a.eval x = .pointer (some ⟨b, off, none⟩)) (hc : w.rangeAt b off cs) (hu : P.underlying t = some d) (hd : d.isRow = true) (hi : (P.info? t).map (·.size) = some cs.length) :
    Oper.wp P ⟨dst, .load t x, ty', pos, after, none⟩ a w K Q = K (a.put dst (.agg cs.toArray)) w := by
  refine wp_val_eq ?_
  unfold execOp
  simp only [hx, Instr.loadAt, Instr.sureAddr, Sem.run_bind, Sem.run_pure, Result.andThen_ok, run_loadVar_mid w b off t cs d hc hu hd hi]
theorem wp_arrayAt_eq {a : Act} {K : Act → World → Prop} {Q : Exit → Act → World → Prop} {dst : Option Tmp} {ty' : TypeId} {pos : String} {after : Array Edge} (arr : TypeId) (x : Operand) {e : TypeId} {n len cap : Nat} {ad : Option Addr}
    (hx : a.eval x = .slice ad len cap) (hu : P.underlying arr = some (.array n e)) (hn : n ≤ len) : Oper.wp P ⟨dst, .sliceToArrayPointer arr x, ty', pos, after, none⟩ a w K Q = K (a.put dst (.pointer ad)) w := by
  refine wp_val_eq ?_
  unfold execOp
  simp only [hx, Sem.run_bind, run_arrayAt w arr e n ad len cap hu hn, Result.andThen_ok]
  rfl
theorem wp_build_eq {a : Act} {K : Act → World → Prop} {Q : Exit → Act → World → Prop} {dst : Option Tmp} {ty' : TypeId} {pos : String} {after : Array Edge} (t : TypeId) (parts : Array (Nat × Operand)) {cells : Array Value} {ps : List (Nat × Value)}
    (hps : (parts.map fun (i, x) => (i, a.eval x)).toList = ps) (hb : P.built t ps = some cells) : Oper.wp P ⟨dst, .build t parts, ty', pos, after, none⟩ a w K Q = K (a.put dst (.agg cells)) w := by
  subst hps
  refine wp_val_eq ?_
  unfold execOp
  simp only [Sem.run_bind, run_build w t _ _ hb, Result.andThen_ok]
  rfl
theorem fill_whole {e : TypeId} {z : Value} {size bytes : Nat} (hinfo : (P.info? e).map (fun i => (i.zero, i.size, i.bytes)) = some (some z, size, bytes)) {v : Value} (hv : v.cells.size = size) :
    ∃ i, P.info? e = some i ∧ i.zero = some z ∧ i.size = size ∧ Instr.fill (fun j => some (j * i.size, i.size)) ((Array.range (1 * i.size)).map (z.cells[· % z.cells.size]!)) [(0, v)] = some v.cells := by
  obtain ⟨i, hi, hz, hs, hb⟩ := info_parts hinfo
  refine ⟨i, hi, hz, hs, ?_⟩
  rw [fill_one _ 0 0 _ _ _ (by simp [hs, hv]) (by simp [hs, hv])]
  simp only [Instr.fill, hs]
  congr 1
  apply Array.ext_getElem?
  intro k
  simp only [splice, List.take_zero, List.nil_append, Nat.zero_add]
  rw [List.drop_of_length_le (by simp [hv]), List.append_nil, Array.toArray_toList]
theorem wp_one_eq {a : Act} {K : Act → World → Prop} {Q : Exit → Act → World → Prop} {dst : Option Tmp} {ty' : TypeId} {pos : String} {after : Array Edge} (t : TypeId) (x : Operand)
    {e : TypeId} {z : Value} {size bytes : Nat} {v : Value} (hx : a.eval x = v) (ht : P.underlying t = some (.slice e)) (hinfo : (P.info? e).map (fun i => (i.zero, i.size, i.bytes)) = some (some z, size, bytes)) (hzs : 0 < size ∧ size ≤ 65536)
    (hv : v.cells.size = size) : Oper.wp P ⟨dst, .buildSlice t 1 #[(0, x)], ty', pos, after, none⟩ a w K Q = K (a.put dst (.slice (some ⟨w.heap.size, 0, none⟩) 1 1)) (w.alloc (.cells v.cells e)) := by
  obtain ⟨i, hi, hz, hs, hf⟩ := fill_whole hinfo hv
  refine wp_val_eq ?_
  unfold execOp
  simp only [Sem.run_bind, List.map_toArray, List.map_cons, List.map_nil, hx]
  rw [run_buildSlice w t e 1 _ v.cells i z ht hi hz (by rw [hs]; omega) (by rw [hs]; omega) hf]
  rfl

/-- Cells of a block from a place on, as a list; and whether they are there. -/
def cellsAt (w : World) (b o n : Nat) : List Value := (List.range n).map fun j => (w.cell? ⟨b, o + j, none⟩).getD undef
def hasCells (w : World) (b o n : Nat) : Bool := (List.range n).all fun j => (w.cell? ⟨b, o + j, none⟩).isSome
def blockOf : Value → Nat | .pointer (some a) => a.block | _ => 0
def placeOf : Value → Nat | .pointer (some a) => a.off | _ => 0
def plainPtr : Value → Bool | .pointer (some a) => a.spot.isNone | _ => false
@[go_sem] theorem cellsAt_drew (b o n : Nat) : cellsAt w.drew b o n = cellsAt w b o n := rfl
@[go_sem] theorem hasCells_drew (b o n : Nat) : hasCells w.drew b o n = hasCells w b o n := rfl
@[go_sem] theorem blockOf_lit (b o : Nat) : blockOf (.pointer (some ⟨b, o, none⟩)) = b := rfl
@[go_sem] theorem placeOf_lit (b o : Nat) : placeOf (.pointer (some ⟨b, o, none⟩)) = o := rfl
@[go_sem] theorem plainPtr_lit (b o : Nat) : plainPtr (.pointer (some ⟨b, o, none⟩)) = true := rfl
theorem rangeAt_cellsAt {b o n : Nat} (h : hasCells w b o n = true) : w.rangeAt b o (cellsAt w b o n) := fun j v hv => by
  have hj : j < n := by have := (List.getElem?_eq_some_iff.1 hv).1; simpa [cellsAt] using this
  simp only [cellsAt, List.getElem?_map, List.getElem?_range hj, Option.map_some, Option.some.injEq] at hv
  have h2 := List.all_eq_true.1 h j (by simpa using hj)
  obtain ⟨u, hu⟩ := Option.isSome_iff_exists.1 h2
  rw [hu] at hv ⊢
  simpa using hv
theorem cellsAt_of_range {b o n : Nat} {cs : List Value} (h : w.rangeAt b o cs) (hn : cs.length = n) : cellsAt w b o n = cs ∧ hasCells w b o n = true := by
  subst hn
  constructor
  · apply List.ext_getElem?
    intro j
    by_cases hj : j < cs.length
    · simp only [cellsAt, List.getElem?_map, List.getElem?_range hj, Option.map_some]
      rw [h j _ (List.getElem?_eq_getElem hj), List.getElem?_eq_getElem hj]; rfl
    · rw [List.getElem?_eq_none (by simp [cellsAt]; omega), List.getElem?_eq_none (by omega)]
  · refine List.all_eq_true.2 fun j hj => ?_
    have hj' : j < cs.length := by simpa using hj
    rw [h j _ (List.getElem?_eq_getElem hj')]; rfl
theorem wp_load_at {a : Act} {K : Act → World → Prop} {Q : Exit → Act → World → Prop} {dst : Option Tmp} {ty' : TypeId} {pos : String} {after : Array Edge} {t : TypeId} {x : Operand} {d : TypeDesc} {n : Nat}
    (hu : P.underlying t = some d) (hd : d.isRow = true) (hi : (P.info? t).map (·.size) = some n) (hp : plainPtr (a.eval x) = true) (hc : hasCells w (blockOf (a.eval x)) (placeOf (a.eval x)) n = true) :
    Oper.wp P ⟨dst, .load t x, ty', pos, after, none⟩ a w K Q = K (a.put dst (.agg (cellsAt w (blockOf (a.eval x)) (placeOf (a.eval x)) n).toArray)) w := by
  cases hv : a.eval x with
  | pointer q =>
    cases q with
    | none => rw [hv] at hp; cases hp
    | some ad =>
      obtain ⟨b, o, sp⟩ := ad
      rw [hv] at hp hc
      obtain rfl : sp = none := by simpa [plainPtr] using hp
      exact wp_load_eq t x b o _ d hv (rangeAt_cellsAt hc) hu hd (by rw [hi]; simp [cellsAt])
  | _ => rw [hv] at hp; cases hp

theorem run_load_at {a : Act} {dst : Option Tmp} {ty' : TypeId} {pos : String} {after : Array Edge} {g : Option (Nat × Bool)} {t : TypeId} {x : Operand} {d : TypeDesc} {n : Nat}
    (hu : P.underlying t = some d) (hd : d.isRow = true) (hi : (P.info? t).map (·.size) = some n) (hp : plainPtr (a.eval x) = true) (hc : hasCells w (blockOf (a.eval x)) (placeOf (a.eval x)) n = true) :
    (execOp a.eval ⟨dst, .load t x, ty', pos, after, g⟩).run P w = .ok (.value (.agg (cellsAt w (blockOf (a.eval x)) (placeOf (a.eval x)) n).toArray)) w := by
  cases hv : a.eval x with
  | pointer q =>
    cases q with
    | none => rw [hv] at hp; cases hp
    | some ad =>
      obtain ⟨b, o, sp⟩ := ad
      rw [hv] at hp hc
      obtain rfl : sp = none := by simpa [plainPtr] using hp
      unfold execOp
      simp only [hv, Instr.loadAt, Instr.sureAddr, Sem.run_bind, Sem.run_pure, Result.andThen_ok, run_loadVar_mid w b o t _ d (rangeAt_cellsAt hc) hu hd (by rw [hi]; simp [cellsAt])]
      rfl
  | _ => rw [hv] at hp; cases hp
theorem run_build_at {a : Act} {dst : Option Tmp} {ty' : TypeId} {pos : String} {after : Array Edge} {g : Option (Nat × Bool)} {t : TypeId} {parts : Array (Nat × Operand)} {cells : Array Value} {ps : List (Nat × Value)}
    (hps : (parts.map fun (i, x) => (i, a.eval x)).toList = ps) (hb : P.built t ps = some cells) : (execOp a.eval ⟨dst, .build t parts, ty', pos, after, g⟩).run P w = .ok (.value (.agg cells)) w := by
  subst hps
  unfold execOp
  simp only [Sem.run_bind, run_build w t _ _ hb, Result.andThen_ok]
  rfl
def aggOf : Value → Array Value | .agg cs => cs | v => #[v]
@[go_sem] theorem aggOf_lit (cs : Array Value) : aggOf (.agg cs) = cs := rfl
theorem aggOf_cells (v : Value) : aggOf v = v.cells := by cases v <;> rfl
/-- A slice literal of one element of many cells, as an equation. -/
theorem wp_one_at {a : Act} {K : Act → World → Prop} {Q : Exit → Act → World → Prop} {dst : Option Tmp} {ty' : TypeId} {pos : String} {after : Array Edge} {t : TypeId} {x : Operand}
    {e : TypeId} {z : Value} {size bytes : Nat} (ht : P.underlying t = some (.slice e)) (hinfo : (P.info? e).map (fun i => (i.zero, i.size, i.bytes)) = some (some z, size, bytes)) (hzs : 0 < size ∧ size ≤ 65536)
    (hv : (aggOf (a.eval x)).size = size) : Oper.wp P ⟨dst, .buildSlice t 1 #[(0, x)], ty', pos, after, none⟩ a w K Q = K (a.put dst (.slice (some ⟨w.heap.size, 0, none⟩) 1 1)) (w.alloc (.cells (aggOf (a.eval x)) e)) := by
  rw [aggOf_cells] at hv ⊢
  exact wp_one_eq t x rfl ht hinfo hzs hv

theorem run_one_at {a : Act} {dst : Option Tmp} {ty' : TypeId} {pos : String} {after : Array Edge} {g : Option (Nat × Bool)} {t : TypeId} {x : Operand}
    {e : TypeId} {z : Value} {size bytes : Nat} (ht : P.underlying t = some (.slice e)) (hinfo : (P.info? e).map (fun i => (i.zero, i.size, i.bytes)) = some (some z, size, bytes)) (hzs : 0 < size ∧ size ≤ 65536)
    (hv : (aggOf (a.eval x)).size = size) : (execOp a.eval ⟨dst, .buildSlice t 1 #[(0, x)], ty', pos, after, g⟩).run P w = .ok (.value (.slice (some ⟨w.heap.size, 0, none⟩) 1 1)) (w.alloc (.cells (aggOf (a.eval x)) e)) := by
  rw [aggOf_cells] at hv ⊢
  obtain ⟨i, hi, hz, hs, hf⟩ := fill_whole hinfo hv
  unfold execOp
  simp only [Sem.run_bind, List.map_toArray, List.map_cons, List.map_nil]
  rw [run_buildSlice w t e 1 _ (a.eval x).cells i z ht hi hz (by rw [hs]; omega) (by rw [hs]; omega) hf]
  rfl

/-- Where the parts of a struct lie in it. -/
def structPlaces (P : Program) (t : TypeId) : Option (List (Nat × Nat)) :=
  match P.underlying t with
  | some (.struct fields) => fields.toList.mapM (fun f => (P.info? f.type).map fun i => (f.offset, i.size))
  | _ => none
theorem built_struct {t : TypeId} {places : List (Nat × Nat)} {z : Value} {size bytes : Nat} (hp : structPlaces P t = some places) (hi : (P.info? t).map (fun i => (i.zero, i.size, i.bytes)) = some (some z, size, bytes)) (parts : List (Nat × Value)) :
    P.built t parts = Instr.fill (places.toArray[·]?) z.cells parts := by
  obtain ⟨i, hi, hz, _, _⟩ := info_parts hi
  unfold structPlaces at hp
  unfold Program.built
  cases hu : P.underlying t with
  | none => simp [hu] at hp
  | some d =>
    cases d with
    | struct fields =>
      simp only [hu] at hp
      simp only [hi, hz, hp]
    | _ => simp [hu] at hp
theorem wpStill_build {Q : Act → Prop} {a : Act} {o : Oper} {rest : List Oper} (hgd : o.guard = none) (t : TypeId) (parts : Array (Nat × Operand)) (ho : o.op = .build t parts) {cells : Array Value}
    {ps : List (Nat × Value)} (hb : P.built t ps = some cells) (hps : (parts.map fun (i, x) => (i, a.eval x)).toList = ps) (h : wpStill P ops w Q rest (a.put o.dst (.agg cells))) : wpStill P ops w Q (o :: rest) a := by
  subst hps
  refine wpStill_val hgd ?_ h
  unfold execOp
  simp only [ho, Sem.run_bind, run_build w t _ _ hb, Result.andThen_ok]
  rfl
end

section
variable {P : Program} {S : Nat → Prop} {w0 w : World} {l : List SP}
/-- A row whose cells are laid anew. -/
theorem St.setRow (h : St S w0 w l) (i : Nat) {b : Nat} {cs : Array Value} {t : TypeId} (hi : l[i]? = some (Blk b cs t)) (cs' : Array Value) : St S w0 (w.setRow b cs') (l.set i (Blk b cs' t)) := by
  obtain ⟨S1, h1, h2⟩ := h.turn i hi
  refine h2 (S1' := S1) ⟨rfl, rfl, rfl, by simp, fun k _ hk => setRow_other w b k cs' (fun e => hk ((h1.2 k).2 e))⟩ ⟨setRow_heap w b _ cs' t _ h1.1, h1.2⟩ (fun _ a => .inl a)

/-- 'copy' into a block that is known whole, as an operation of a plain list. -/
theorem St.list_copy (H : St S w0 w l) (i : Nat) {g : Nat} {cur : List Value} {t : TypeId} (hi' : l[i]? = some (Blk g cur.toArray t))
    {ops : Array Oper} {rest : List Oper} {o : Oper} {a : Act} {Q : Exit → Act → World → Prop} (hgd : o.guard = none) (d s : Operand) (dT sT : TypeId)
    (ho : o.op = .call { callee := .builtin .copy, args := #[d, s], argTypes := #[dT, sT] }) (elem : TypeId) (hu : P.underlying dT = some (.slice elem)) (hsz : (P.info? elem).map (·.size) = some 1)
    (off dLen dCap sLen sCap : Nat) (sp : Option Addr) (hd : a.eval d = .slice (some ⟨g, off, none⟩) dLen dCap) (hs : a.eval s = .slice sp sLen sCap) (cs : List Value) (hn : cs.length = Nat.min sLen dLen)
    (hsrc : 0 < cs.length → ∃ ad, sp = some ad ∧ ∀ j v, cs[j]? = some v → w.cell? (ad.add j) = some v) (hfit : off + cs.length ≤ cur.length) (h1 : ∀ v ∈ cs, v.oneCell' = true)
    (h : ∀ w', St S w0 w' (l.set i (Blk g (splice cur off cs).toArray t)) → w.heap.size ≤ w'.heap.size → wpList P ops Q rest (a.put o.dst (goInt cs.length)) w') :
    wpList P ops Q (o :: rest) a w := by
  by_cases h0 : cs.length = 0
  · obtain rfl : cs = [] := List.eq_nil_of_length_eq_zero h0
    refine wpList_copy_nothing hgd d s dT sT ho elem hu hsz _ sp dLen dCap sLen sCap hd hs (by simpa using hn.symm) ?_
    refine h w ?_ (Nat.le_refl _)
    have e : splice cur off [] = cur := by simp [splice]
    rw [e]
    have : l.set i (Blk g cur.toArray t) = l := by
      apply List.ext_getElem?
      intro n
      rw [List.getElem?_set]
      split
      · rename_i hn'; subst hn'
        split
        · exact hi'.symm
        · rename_i hlt; rw [List.getElem?_eq_none (by omega)]
      · rfl
    rw [this]; exact H
  · obtain ⟨ad, rfl, hsrc2⟩ := hsrc (by omega)
    refine wpList_copy_own hgd d s dT sT ho elem hu hsz g off dLen dCap ad sLen sCap hd hs cur.toArray t (H.blk i hi') cs hn hsrc2 (by simpa using hfit) h1 ?_
    exact h _ (H.setRow i hi' _) (by simp)
end

/-- A slice literal of one element. -/
theorem list_one {P : Program} {w : World} {ops : Array Oper} {rest : List Oper} {o : Oper} {a : Act} {Q : Exit → Act → World → Prop} (hgd : o.guard = none) (t : TypeId) (x : Operand) (ho : o.op = .buildSlice t 1 #[(0, x)])
    {e : TypeId} {z : Value} {size bytes : Nat} (ht : P.underlying t = some (.slice e)) (hinfo : (P.info? e).map (fun i => (i.zero, i.size, i.bytes)) = some (some z, size, bytes)) (hzs : z.cells.size = size ∧ 0 < size ∧ size ≤ 65536)
    {v : Value} (hx : a.eval x = v) (hv : v.cells.size = size)
    (h : wpList P ops Q rest (a.put o.dst (.slice (some ⟨w.heap.size, 0, none⟩) 1 1)) (w.alloc (.cells v.cells e))) : wpList P ops Q (o :: rest) a w := by
  obtain ⟨i, hi, hz, hs, hb⟩ := info_parts hinfo
  refine wpList_buildSlice hgd t e 1 _ ho v.cells i z ht hi hz (by rw [hs]; omega) (by rw [hs]; omega) ?_ h
  simp only [List.map_toArray, List.map_cons, List.map_nil, hx]
  rw [fill_one _ 0 0 _ _ _ (by simp [hs, hv]) (by simp [hs, hv])]
  simp only [Instr.fill, hs]
  congr 1
  apply Array.ext_getElem?
  intro k
  simp only [splice, List.take_zero, List.nil_append, Nat.zero_add]
  rw [List.drop_of_length_le (by simp [hv]), List.append_nil, Array.toArray_toList]

/-- What a value that owns a row looks like. -/
theorem own_shape {w : World} {base : Nat} {e : TypeId} {size : Nat} {v : Value} {n : Nat} {xs : List Value} (h : w.ownsRow base e size v n xs) :
    (v = .slice none 0 0 ∧ n = 0) ∨ ∃ g cap, v = .slice (some ⟨g, 0, none⟩) n cap ∧ n ≤ cap ∧ g < w.heap.size := by
  rcases h.2 with a | ⟨g, cap, cur, hv, _, hg, hn, _⟩
  · exact .inl a
  · exact .inr ⟨g, cap, hv, hn, blk_lt hg⟩
theorem own_cell {w : World} {base : Nat} {e : TypeId} {size : Nat} {g n cap : Nat} {xs : List Value} (h : w.ownsRow base e size (.slice (some ⟨g, 0, none⟩) n cap) n xs) {j : Nat} {u : Value} (hj : xs[j]? = some u) :
    w.cell? ⟨g, j, none⟩ = some u := by
  have := h.cells (g := g) rfl j u hj
  rwa [Addr.add_mid, Nat.zero_add] at this
theorem own_free {w : World} {base : Nat} {e : TypeId} {size : Nat} {g n cap : Nat} {xs : List Value} (h : w.ownsRow base e size (.slice (some ⟨g, 0, none⟩) n cap) n xs) (j : Nat) : w.frozen? ⟨g, j, none⟩ = false := by
  rcases h.2 with ⟨a, _⟩ | ⟨g', cap', cur, hv, _, hg, _⟩
  · cases a
  · simp only [Value.slice.injEq, Option.some.injEq, Addr.mk.injEq] at hv
    obtain ⟨⟨rfl, _⟩, _⟩ := hv
    exact free_blk hg j
/-- The cells of one element of a row of lists. -/
theorem own_at {w : World} {base : Nat} {e : TypeId} {size k : Nat} {g n cap : Nat} {ls : List (List Value)} (h : w.ownsRow base e size (.slice (some ⟨g, 0, none⟩) n cap) n ls.flatten) (hk : ∀ x ∈ ls, x.length = k) {i : Nat} {x : List Value} (hi : ls[i]? = some x) :
    cellsAt w g (i * k) k = x ∧ hasCells w g (i * k) k = true := by
  have hx := hk x (List.mem_of_getElem? hi)
  refine cellsAt_of_range (fun j u hj => ?_) hx
  have hjl : j < k := by rw [← hx]; exact (List.getElem?_eq_some_iff.1 hj).1
  exact own_cell h ((flat_get hk hi hjl).trans hj)
theorem blk_at {w : World} {g k : Nat} {t : TypeId} {fr : Nat × Nat} {ls : List (List Value)} (h : w.heap[g]? = some (.cells ls.flatten.toArray t fr)) (hk : ∀ x ∈ ls, x.length = k) {i : Nat} {x : List Value} (hi : ls[i]? = some x) :
    cellsAt w g (i * k) k = x ∧ hasCells w g (i * k) k = true := by
  have hx := hk x (List.mem_of_getElem? hi)
  refine cellsAt_of_range (fun j u hj => ?_) hx
  have hjl : j < k := by rw [← hx]; exact (List.getElem?_eq_some_iff.1 hj).1
  rw [cell_blk h]
  simpa using (flat_get hk hi hjl).trans hj
theorem blk_whole {w : World} {g : Nat} {t : TypeId} {fr : Nat × Nat} {cs : List Value} (h : w.heap[g]? = some (.cells cs.toArray t fr)) {n : Nat} (hn : cs.length = n) : cellsAt w g 0 n = cs ∧ hasCells w g 0 n = true :=
  cellsAt_of_range (fun j u hj => by rw [cell_blk h]; simpa using hj) hn
theorem blk_part {w : World} {g : Nat} {t : TypeId} {fr : Nat × Nat} {a cs : List Value} (h : w.heap[g]? = some (.cells (a ++ cs).toArray t fr)) {m n : Nat} (hm : a.length = m) (hn : cs.length = n) : cellsAt w g m n = cs ∧ hasCells w g m n = true :=
  cellsAt_of_range (fun j u hj => by rw [cell_blk h]; subst hm; rw [List.getElem?_toArray, List.getElem?_append_right (by omega)]; simpa using hj) hn

/-- How many cells a block has that may be written. -/
def rowSize (w : World) (b : Nat) : Nat := match w.heap[b]? with | some (.cells cs _ (0, 0)) => cs.size | _ => 0
theorem rowSize_of {w : World} {b : Nat} {cs : Array Value} {t : TypeId} (h : w.heap[b]? = some (.cells cs t (0, 0))) : rowSize w b = cs.size := by unfold rowSize; rw [h]; rfl
@[go_sem] theorem rowSize_drew (w : World) (b : Nat) : rowSize w.drew b = rowSize w b := rfl
@[go_sem] theorem rowSize_alloc_at (w : World) (c : Array Value) (t : TypeId) (b : Nat) (hb : b = w.heap.size) : rowSize (w.alloc (.cells c t)) b = c.size := by subst hb; exact rowSize_of (heap_alloc_new _ _)
@[go_sem] theorem rowSize_alloc_past (w : World) (o : Obj) (b : Nat) (hb : b < w.heap.size) : rowSize (w.alloc o) b = rowSize w b := by unfold rowSize; rw [heap_alloc_old _ _ hb]
@[go_sem] theorem setRow_alloc_at (w : World) (c c' : Array Value) (t : TypeId) (b : Nat) (hb : b = w.heap.size) : (w.alloc (.cells c t)).setRow b c' = w.alloc (.cells c' t) := by
  subst hb
  simp only [World.setRow, World.alloc]
  congr 1
  apply Array.ext_getElem?
  intro i
  rw [Array.getElem?_modify]
  by_cases h : w.heap.size = i
  · subst h
    simp
  · have h' : ¬ i = w.heap.size := fun e => h e.symm
    simp [h, h', Array.getElem?_push]
@[go_sem] theorem setRow_drew (w : World) (c' : Array Value) (b : Nat) : w.drew.setRow b c' = (w.setRow b c').drew := rfl
def allOne (cs : Array Value) : Bool := cs.all (·.oneCell')
def isAggV : Value → Bool | .agg _ => true | _ => false
@[go_sem] theorem isAggV_lit (cs : Array Value) : isAggV (.agg cs) = true := rfl
theorem run_store_at {P : Program} {w : World} {a : Act} {dst : Option Tmp} {ty' : TypeId} {pos : String} {after : Array Edge} {g : Option (Nat × Bool)} {t : TypeId} {x y : Operand} {n : Nat}
    (hi : (P.info? t).map (·.size) = some n) (hn : 0 < n) (hp : plainPtr (a.eval x) = true) (ho : placeOf (a.eval x) = 0) (hr : rowSize w (blockOf (a.eval x)) = n) (hv : isAggV (a.eval y) = true) (hs : (aggOf (a.eval y)).size = n) (h1 : allOne (aggOf (a.eval y)) = true) :
    (execOp a.eval ⟨dst, .store t x y, ty', pos, after, g⟩).run P w = .ok .skip (w.setRow (blockOf (a.eval x)) (aggOf (a.eval y))) := by
  cases hx : a.eval x with
  | pointer q =>
    cases q with
    | none => rw [hx] at hp; cases hp
    | some ad =>
      obtain ⟨b, o, sp⟩ := ad
      rw [hx] at hp hr ho
      obtain rfl : sp = none := by simpa [plainPtr] using hp
      obtain rfl : o = 0 := ho
      cases hy : a.eval y with
      | agg cs =>
        rw [hy] at hs h1
        change cs.size = n at hs
        change rowSize w b = n at hr
        unfold rowSize at hr
        split at hr
        · rename_i c2 t2 hb
          unfold execOp
          simp only [hx, hy, Instr.storeAt, Instr.sureAddr, Sem.run_bind, Sem.run_pure, Result.andThen_ok, run_storeVar_row w b t2 t c2 cs hb (by rw [hs]; exact hi) (by omega) h1]
          rfl
        · omega
      | _ => rw [hy] at hv; cases hv
  | _ => rw [hx] at hp; cases hp

section
variable {P : Program} {S : Nat → Prop} {w0 w : World} {l : List SP}
/-- A whole variable is stored into a block of its own, as an operation of a plain list. -/
theorem St.list_store (H : St S w0 w l) (i : Nat) {g : Nat} {old : Array Value} {t : TypeId} (hi' : l[i]? = some (Blk g old t))
    {ops : Array Oper} {rest : List Oper} {o : Oper} {a : Act} {Q : Exit → Act → World → Prop} (hgd : o.guard = none) (ty : TypeId) (x y : Operand) (ho : o.op = .store ty x y)
    (cells : Array Value) (hx : a.eval x = .pointer (some ⟨g, 0, none⟩)) (hy : a.eval y = .agg cells) (hi : (P.info? ty).map (·.size) = some cells.size) (hold : old.size = cells.size) (h1 : ∀ u ∈ cells.toList, u.oneCell' = true)
    (h : ∀ w', St S w0 w' (l.set i (Blk g cells t)) → w'.heap.size = w.heap.size → wpList P ops Q rest (a.put o.dst undef) w') : wpList P ops Q (o :: rest) a w :=
  wpList_store_row hgd ty x y ho g cells hx hy t old (H.blk i hi') hi hold (Array.all_eq_true_iff_forall_mem.2 (fun v hv => h1 v (by simpa using hv))) (h _ (H.setRow i hi' cells) (by simp))
end

end Go.Proofs.YtaafedpjifaghaaDoor

/- More laws of parts: an element of an owned row is laid anew; texts as cells. Plain laws, no program in sight. -/
set_option linter.unusedVariables false
set_option linter.unusedSimpArgs false
namespace Go.Proofs.YtaafedpjifaghaaDoor
open Go.RowKit

section
variable {S : Nat → Prop} {w0 w : World} {l : List SP}
/-- An element of an owned row is laid anew. -/
theorem St.rowSet (h : St S w0 w l) (i : Nat) {e : TypeId} {size g n cap : Nat} {xs : List Value} (hi : l[i]? = some (Row e size (.slice (some ⟨g, 0, none⟩) n cap) n xs)) (j : Nat) (u : Value) :
    St S w0 (w.setCell ⟨g, j, none⟩ u) (l.set i (Row e size (.slice (some ⟨g, 0, none⟩) n cap) n (xs.set j u))) := by
  obtain ⟨S1, h1, h2⟩ := h.turn i hi
  have hS : ∀ k, S1 k ↔ k = g := fun k => by rw [h1.2 k]; simp [Value.ownBlock, eq_comm]
  exact h2 (S1' := S1) (kept_set.mono (fun k _ e => (hS k).2 e)) ⟨(h1.1.stored j u).1, h1.2⟩ (fun _ a => .inl a)
theorem St.rowCell (h : St S w0 w l) (i j : Nat) {e : TypeId} {size g n cap : Nat} {xs : List Value} (hi : l[i]? = some (Row e size (.slice (some ⟨g, 0, none⟩) n cap) n xs)) {u : Value} (hu : xs[j]? = some u) : w.cell? ⟨g, j, none⟩ = some u := by
  have hr := h.row i hi
  have hj := (List.getElem?_eq_some_iff.1 hu).1
  rw [hr.cellAt j (by rw [← hr.1]; exact hj), hu]
theorem St.rowFree (h : St S w0 w l) (i j : Nat) {e : TypeId} {size g n cap : Nat} {xs : List Value} (hi : l[i]? = some (Row e size (.slice (some ⟨g, 0, none⟩) n cap) n xs)) : w.frozen? ⟨g, j, none⟩ = false := (h.row i hi).frozenAt j
theorem St.row_lt (h : St S w0 w l) (i : Nat) {e : TypeId} {size g n cap : Nat} {xs : List Value} (hi : l[i]? = some (Row e size (.slice (some ⟨g, 0, none⟩) n cap) n xs)) : g < w.heap.size := ((h.row i hi).lt g rfl).2
end

def textV (l : List UInt8) : Value := .string ⟨l.toArray⟩
def texts (l : List (List UInt8)) : List Value := l.map textV

def bools (l : List Bool) : List Value := l.map Value.bool
theorem bools_at {l : List Bool} {n k : Nat} (hl : l.length = n) (hk : k < n) : (bools l).toArray[k]? = some (.bool (l.getD k false)) := by
  simp [bools, List.getD, List.getElem?_eq_getElem (show k < l.length by omega)]
theorem bools_set {l : List Bool} (k : Nat) (x : Bool) : (bools l).toArray.setIfInBounds k (.bool x) = (bools (l.set k x)).toArray := by
  simp [bools, List.map_set]

theorem okWide_row {P : Program} {w : World} {r : Reach} {base : Nat} {t : TypeId} {v : Value} {n : Nat} {e : TypeId} (ht : P.underlying t = some (.array n e)) (h : Value.okWide P w r base t v) : ∃ cs, v = .agg cs ∧ cs.size = P.cellsOf t := by
  simp only [Value.okWide, ht] at h
  obtain ⟨cs, h1, h2, _⟩ := h
  exact ⟨cs, h1, h2⟩

end Go.Proofs.YtaafedpjifaghaaDoor

/- Laws of reading, lending and calling that need no function of the program: bytes that can be read, texts of them, calls in the midst of a call. -/
set_option linter.unusedVariables false
set_option linter.unusedSimpArgs false
namespace Go.Proofs.YtaafedpjifaghaaDoor
open Go.RowKit

theorem Tryd.info5 : (Tryd.prog.info? 5).map (fun i => (i.zero, i.size, i.bytes)) = some (some (.int .u8 0), 1, 1) := by kernel_rfl

/-- A slice of bytes that can be read, and stays so while outside S nothing turns. -/
def BytesRO (S : Nat → Prop) (w : World) (v : Value) (l : List UInt8) : Prop :=
  ∃ ad cap, v = .slice ad l.length cap ∧ l.length ≤ cap ∧ (l ≠ [] → ∃ b o, ad = some ⟨b, o, none⟩ ∧ b < w.heap.size ∧ ¬ S b ∧ ∀ i (hi : i < l.length), w.cell? ⟨b, o + i, none⟩ = some (bv l[i]))
theorem all_bvs (l : List UInt8) : allOne (bvs l).toArray = true := Array.all_eq_true_iff_forall_mem.2 (fun v hv => one_bvs v (by simpa using hv))
/-- A slice of bytes of the call's own. -/
def BytesAt (v : Value) (l : List UInt8) : SP where
  on w S := (l = [] ∧ v = .slice none 0 0 ∧ ∀ k, ¬ S k) ∨ ∃ g t, v = .slice (some ⟨g, 0, none⟩) l.length l.length ∧ w.heap[g]? = some (.cells (bvs l).toArray t (0, 0)) ∧ ∀ k, S k ↔ k = g
  loc w w' S h hs := by
    rcases h with h | ⟨g, t, h1, h2, h3⟩
    · exact .inl h
    · exact .inr ⟨g, t, h1, (hs g ((h3 g).2 rfl)).trans h2, h3⟩
  lt w S k h hk := by
    rcases h with ⟨_, _, h⟩ | ⟨g, t, h1, h2, h3⟩
    · exact absurd hk (h k)
    · obtain rfl := (h3 k).1 hk
      exact blk_lt h2
theorem BytesAt.nil {w0 w : World} {l : List SP} {S : Nat → Prop} (H : St S w0 w l) : St S w0 w (BytesAt (.slice none 0 0) [] :: l) :=
  ⟨H.kept, fun _ => False, .inl ⟨rfl, rfl, fun _ h => h⟩, fun _ h => h.elim, H.sep.mono (fun _ _ h => ⟨h, id⟩)⟩
theorem BytesAt.mk {w0 w : World} {l : List SP} {S : Nat → Prop} {g : Nat} {bs : List UInt8} {t : TypeId} (H : St S w0 w (Blk g (bvs bs).toArray t :: l)) : St S w0 w (BytesAt (.slice (some ⟨g, 0, none⟩) bs.length bs.length) bs :: l) := by
  obtain ⟨h, S1, h1, h2, h3⟩ := H
  exact ⟨h, S1, .inr ⟨g, t, rfl, h1.1, h1.2⟩, h2, h3⟩
theorem take_snoc' {α : Type} {l : List α} {k : Nat} {x : α} (h : l[k]? = some x) : l.take (k + 1) = l.take k ++ [x] := by
  obtain ⟨hlt, rfl⟩ := List.getElem?_eq_some_iff.1 h
  exact List.take_succ_eq_append_getElem hlt
/-- A slice of bools that can be read, and stays so while outside S nothing turns. -/
def BoolsRO (S : Nat → Prop) (w : World) (v : Value) (l : List Bool) : Prop :=
  ∃ ad cap, v = .slice ad l.length cap ∧ l.length ≤ 9223372036854775807 ∧ (l ≠ [] → ∃ b o, ad = some ⟨b, o, none⟩ ∧ b < w.heap.size ∧ ¬ S b ∧ ∀ i (hi : i < l.length), w.cell? ⟨b, o + i, none⟩ = some (.bool l[i]))
theorem BoolsRO.move {S : Nat → Prop} {w w' : World} {v : Value} {l : List Bool} (h : BoolsRO S w v l) (hk : Kept S w w') : BoolsRO S w' v l := by
  obtain ⟨ad, cap, h1, h2, h3⟩ := h
  refine ⟨ad, cap, h1, h2, fun hl => ?_⟩
  obtain ⟨b, o, g1, g2, g3, g4⟩ := h3 hl
  exact ⟨b, o, g1, Nat.lt_of_lt_of_le g2 hk.size, g3, fun i hi => (World.cell?_of_block (w := w) (hk.block b g2 g3)).trans (g4 i hi)⟩
theorem BytesRO.move {S : Nat → Prop} {w w' : World} {v : Value} {l : List UInt8} (h : BytesRO S w v l) (hk : Kept S w w') : BytesRO S w' v l := by
  obtain ⟨ad, cap, h1, h2, h3⟩ := h
  refine ⟨ad, cap, h1, h2, fun hl => ?_⟩
  obtain ⟨b, o, g1, g2, g3, g4⟩ := h3 hl
  exact ⟨b, o, g1, Nat.lt_of_lt_of_le g2 hk.size, g3, fun i hi => (World.cell?_of_block (w := w) (hk.block b g2 g3)).trans (g4 i hi)⟩
theorem nums_bvs (l : List UInt8) : strOfNums (l.map fun b => (b.toNat : Int)) = ⟨l.toArray⟩ := by
  unfold strOfNums
  rw [List.map_map]
  congr 2
  rw [List.map_congr_left (g := id) (fun b _ => by simp), List.map_id]
/-- Bytes that lie there, as a text. -/
theorem conv_text {w : World} {b o n cap : Nat} {l : List UInt8} (h : w.rangeAt b o (bvs l)) (hn : l.length = n) : (convert 38 9 (.slice (some ⟨b, o, none⟩) n cap)).run Tryd.prog w = .ok (.string ⟨l.toArray⟩) w := by
  have := run_convert_bytes_arg (P := Tryd.prog) w 38 5 Tryd.underlying38 Tryd.underlying5 b o n cap (l.map fun b => (b.toNat : Int)) (by simpa using hn) (fun i hi => by
    rw [h i (bv (l[i]'(by omega))) (by simp [bvs, hn, hi])]
    simp [bv, List.getD, hn, hi]) 9 Tryd.underlying9
  rw [nums_bvs] at this
  exact this
theorem conv_nil {w : World} {n cap : Nat} : (convert 38 9 (.slice none n cap)).run Tryd.prog w = .ok (.string ⟨#[]⟩) w :=
  run_convert_bytes_nil (P := Tryd.prog) w 38 5 Tryd.underlying38 Tryd.underlying5 n cap 9 Tryd.underlying9
theorem conv_at {w : World} {v : Value} {l : List UInt8} {S : Nat → Prop} (h : (BytesAt v l).on w S) : (convert 38 9 v).run Tryd.prog w = .ok (.string ⟨l.toArray⟩) w := by
  rcases h with ⟨rfl, rfl, _⟩ | ⟨g, t, rfl, h, _⟩
  · exact conv_nil
  · exact conv_text (fun j u hj => by rw [cell_blk h]; simpa using hj) rfl
theorem rep_set (n k : Nat) (x : UInt8) : (List.replicate n x).set k x = List.replicate n x := by
  apply List.ext_getElem?
  intro i
  rw [List.getElem?_set]
  by_cases h : k = i
  · subst h
    by_cases h2 : k < n <;> simp [h2]
  · simp [h]
/-- Bytes of the call's own are lent to a call. -/
theorem St.lend {S : Nat → Prop} {w0 w : World} {l1 rest : List SP} {g n : Nat} {bs : List UInt8} {t : TypeId} (H : St S w0 w (l1 ++ (Blk g (bvs bs).toArray t :: rest))) (hn : bs.length = n) :
    ∃ S1, Sep w l1 S1 ∧ BytesRO S1 w (.slice (some ⟨g, 0, none⟩) n n) bs ∧ ∀ w' l1', St S1 w w' l1' → St S w0 w' (l1' ++ (Blk g (bvs bs).toArray t :: rest)) := by
  obtain ⟨S1, h1, h2, S2, g1, g2, g3⟩ := H.sep.split
  have hg : ¬ S1 g := (g2 g ((g1.2 g).2 rfl)).2
  obtain ⟨T, k1, k2⟩ := St.call H
  refine ⟨S1, h2, ⟨_, n, by rw [hn], by omega, fun _ => ⟨g, 0, rfl, Go.Proofs.YtaafedpjifaghaaDoor.blk_lt g1.1, hg, fun i hi => ?_⟩⟩, fun w' l1' G => ?_⟩
  · rw [cell_blk g1.1]; simp [bvs, hi]
  · refine ⟨?_, ?_⟩
    · refine H.kept.trans' G.kept (fun i hi hs => ?_)
      rcases (h1 i hs).1 with a | a
      · exact a
      · omega
    · have hsz := H.kept.size
      have h3 : Sep w (Blk g (bvs bs).toArray t :: rest) (fun k => (S k ∨ w0.heap.size ≤ k) ∧ ¬ S1 k) := ⟨S2, g1, g2, g3⟩
      refine Sep.join G.sep ?_ (((h3.clip).move ?_).mono ?_)
      · rintro k _ (a | a)
        · exact (h1 k a).1
        · exact .inr (by omega)
      · rintro k hk ⟨⟨_, b⟩, _⟩
        exact G.kept.block k hk b
      · rintro k _ ⟨⟨a, b⟩, c⟩
        exact ⟨a, by rintro (d | d); exact b d; omega⟩
/-- What came in may be lent at any time. -/
theorem St.lendIn {w0 w : World} {l1 rest : List SP} {v : Value} {bs : List UInt8} (H : St (fun _ => False) w0 w (l1 ++ rest)) (hv : BytesRO (fun _ => False) w0 v bs) :
    ∃ S1, Sep w l1 S1 ∧ BytesRO S1 w v bs ∧ ∀ w' l1', St S1 w w' l1' → St (fun _ => False) w0 w' (l1' ++ rest) := by
  obtain ⟨S1, h1, h2, _, h4⟩ := St.call2 H
  obtain ⟨ad, cap, e1, e2, e3⟩ := hv
  refine ⟨S1, h1, ⟨ad, cap, e1, e2, fun hl => ?_⟩, h4⟩
  obtain ⟨b, o, g1, g2, _, g4⟩ := e3 hl
  exact ⟨b, o, g1, Nat.lt_of_lt_of_le g2 H.size, fun hs => (h2 b hs).elim id (fun h => by omega), fun i hi => (World.cell?_of_block (w := w0) (H.kept.block b g2 id)).trans (g4 i hi)⟩
theorem BytesAt.out {S : Nat → Prop} {w0 w : World} {rest : List SP} {v : Value} {bs : List UInt8} {n : Nat} (H : St S w0 w (BytesAt v bs :: rest)) (hn : bs.length = n) (h0 : 0 < n) :
    ∃ g t, v = .slice (some ⟨g, 0, none⟩) n n ∧ St S w0 w (Blk g (bvs bs).toArray t :: rest) := by
  obtain ⟨hk, S1, h1, h2, h3⟩ := H
  rcases h1 with ⟨rfl, _⟩ | ⟨g, t, e1, e2, e3⟩
  · simp at hn; omega
  · exact ⟨g, t, by rw [e1, hn], hk, S1, ⟨e2, e3⟩, h2, h3⟩
theorem row_form {w : World} {base : Nat} {e : TypeId} {size : Nat} {v : Value} {n N : Nat} {xs : List Value} (h : w.ownsRow base e size v n xs) (hn : n = N) (h0 : 0 < N) : ∃ g cap, v = .slice (some ⟨g, 0, none⟩) N cap := by
  subst hn
  rcases own_shape h with ⟨_, h⟩ | ⟨g, cap, h, _⟩
  · omega
  · exact ⟨g, cap, h⟩
theorem noBools (S : Nat → Prop) (w : World) : BoolsRO S w (.slice none 0 0) [] := ⟨none, 0, rfl, by simp, fun h => absurd rfl h⟩
theorem box_keep {S : Nat → Prop} {w w' : World} {b : Nat} {x y : Value} {t : TypeId} {r : List SP} (H : St S w w' (Blk b #[x, y] t :: r)) :
    w'.cell? ⟨b, 0, none⟩ = some x ∧ w'.cell? ⟨b, 1, none⟩ = some y ∧ St S w w' (Blk b #[x, y] t :: r) := ⟨H.cell 0 0 rfl rfl, H.cell 0 1 rfl rfl, H⟩
/-- A call that leaves all that was there alone, in the midst of a call. -/
theorem St.callPast {S : Nat → Prop} {w w' : World} {L : List SP} {P : Program} {fid : Nat} {args : Array Value} {p : Ending → Prop} (hc : Calls P fid args w' fun e w2 => p e ∧ Below w'.heap.size w' w2) (H : St S w w' L) :
    Calls P fid args w' fun e w2 => p e ∧ St S w w2 L := hc.mono fun _ _ h => ⟨h.1, H.past h.2⟩
theorem St.callSame {S : Nat → Prop} {w w' : World} {L : List SP} {P : Program} {fid : Nat} {args : Array Value} {p : Ending → Prop} (hc : Calls P fid args w' fun e w2 => p e ∧ w' = w2) (H : St S w w' L) :
    Calls P fid args w' fun e w2 => p e ∧ St S w w2 L := hc.mono fun _ _ h => ⟨h.1, h.2 ▸ H⟩
theorem St.callSame' {S : Nat → Prop} {w w' : World} {L : List SP} {P : Program} {fid : Nat} {args : Array Value} {p : Ending → Prop} (hc : Calls P fid args w' fun e w2 => p e ∧ w2 = w') (H : St S w w' L) :
    Calls P fid args w' fun e w2 => p e ∧ St S w w2 L := hc.mono fun _ _ h => ⟨h.1, h.2 ▸ H⟩
/-- A call on one part, in the midst of a call. -/
theorem St.callOn {S : Nat → Prop} {w w' : World} {A A' : SP} {L : List SP} {P : Program} {fid : Nat} {args : Array Value} {p : Ending → Prop} (hc : ∀ S', Sep w' [A] S' → Calls P fid args w' fun e w2 => p e ∧ St S' w' w2 [A']) (H : St S w w' (A :: L)) :
    Calls P fid args w' fun e w2 => p e ∧ St S w w2 (A' :: L) := by
  obtain ⟨S1, K1, G1⟩ := St.call (l1 := [_]) H
  exact (hc S1 K1).mono fun _ _ h => ⟨h.1, G1 _ _ h.2⟩
/-- What lies outside S may be lent at any time. -/
theorem St.lendS {S : Nat → Prop} {w0 w : World} {l1 rest : List SP} {v : Value} {bs : List UInt8} (H : St S w0 w (l1 ++ rest)) (hv : BytesRO S w0 v bs) :
    ∃ S1, Sep w l1 S1 ∧ BytesRO S1 w v bs ∧ ∀ w' l1', St S1 w w' l1' → St S w0 w' (l1' ++ rest) := by
  obtain ⟨S1, h1, h2, _, h4⟩ := St.call2 H
  obtain ⟨ad, cap, e1, e2, e3⟩ := hv
  refine ⟨S1, h1, ⟨ad, cap, e1, e2, fun hl => ?_⟩, h4⟩
  obtain ⟨b, o, g1, g2, g3, g4⟩ := e3 hl
  exact ⟨b, o, g1, Nat.lt_of_lt_of_le g2 H.size, fun hs => (h2 b hs).elim g3 (fun h => by omega), fun i hi => (World.cell?_of_block (w := w0) (H.kept.block b g2 g3)).trans (g4 i hi)⟩
theorem BytesRO.part {S : Nat → Prop} {w : World} {b o n cap : Nat} {l : List UInt8} (h : BytesRO S w (.slice (some ⟨b, o, none⟩) n cap) l) (hn : l.length = n) {i k : Nat} (hk : i + k ≤ n) (cap' : Nat) (hc : k ≤ cap') :
    BytesRO S w (.slice (some ⟨b, o + i, none⟩) k cap') ((l.drop i).take k) := by
  obtain ⟨ad, cp, e1, e2, e3⟩ := h
  have hl : ((l.drop i).take k).length = k := by simp; omega
  refine ⟨_, cap', by rw [hl], by rw [hl]; exact hc, fun hne => ?_⟩
  have hk0 : 0 < k := by
    rcases Nat.eq_zero_or_pos k with h | h
    · subst h; simp at hne
    · exact h
  obtain ⟨b', o', g1, g2, g3, g4⟩ := e3 (by intro h; subst h; simp at hn; omega)
  simp only [Value.slice.injEq] at e1
  obtain ⟨e1, _⟩ := e1
  rw [g1] at e1
  simp only [Option.some.injEq, Addr.mk.injEq] at e1
  obtain ⟨rfl, rfl, _⟩ := e1
  refine ⟨_, _, rfl, g2, g3, fun j hj => ?_⟩
  rw [hl] at hj
  have := g4 (i + j) (by omega)
  rw [Nat.add_assoc, this]
  congr 2
  simp
theorem conv_zero' {w : World} (a : Addr) (cap : Nat) : (convert 38 9 (.slice (some a) 0 cap)).run Tryd.prog w = .ok (.string ⟨#[]⟩) w := by
  have hl : (loadCells a 0).run Tryd.prog w = .ok (([] : List Int).map (Value.int .u8)).toArray w := by
    simpa using run_loadCells_list (P := Tryd.prog) w a [] (fun j v hj => by simp at hj)
  rw [run_convert_bytes_string w 38 9 5 _ 0 cap Tryd.underlying38 Tryd.underlying5 Tryd.underlying9, run_bytesToString w _ 0 cap [] hl]
  rfl
/-- Bytes that came in, as a text. -/
theorem conv_ro' {S : Nat → Prop} {w w' : World} {v : Value} {bs : List UInt8} (hv : BytesRO S w v bs) (hk : ∀ b, b < w.heap.size → ¬ S b → w'.heap[b]? = w.heap[b]?) :
    (convert 38 9 v).run Tryd.prog w' = .ok (.string ⟨bs.toArray⟩) w' := by
  obtain ⟨ad, cap, rfl, _, h⟩ := hv
  by_cases h0 : bs = []
  · subst h0
    cases ad with
    | none => exact conv_nil
    | some a => exact conv_zero' a cap
  · obtain ⟨b, o, rfl, h1, h2, h3⟩ := h h0
    refine conv_text (fun j u hj => ?_) rfl
    have hjl : j < bs.length := by have := (List.getElem?_eq_some_iff.1 hj).1; rwa [length_bvs] at this
    rw [World.cell?_of_block (w := w) (hk b h1 h2), h3 j hjl, ← hj]
    simp [bvs, hjl]
theorem own_text' {w : World} {v : Value} {n : Nat} {bs : List UInt8} (h : w.ownsRow 0 5 1 v n (bvs bs)) : (convert 38 9 v).run Tryd.prog w = .ok (.string ⟨bs.toArray⟩) w := by
  have hn : bs.length = n := by have := h.1; rw [length_bvs] at this; omega
  rcases own_shape h with ⟨rfl, h0⟩ | ⟨g, cap, rfl, _⟩
  · have : bs = [] := List.eq_nil_of_length_eq_zero (by omega)
    subst this
    exact conv_nil
  · exact conv_text (fun j u hj => by rw [Nat.zero_add]; exact own_cell h hj) hn

end Go.Proofs.YtaafedpjifaghaaDoor

/- The walks of the store: Len, in, Off, Write, Read. Conditions: the store's blocks lie as its maker lays them. -/
set_option linter.unusedVariables false
set_option linter.unusedSimpArgs false
namespace Go.Proofs.YtaafedpjifaghaaDoor
open Go.RowKit

/-- The parts of a store. -/
def storeParts (b bl br : Nat) (vw : Value) (m : StM) : List SP :=
  [StoreB b (.slice (some ⟨bl, 0, none⟩) m.last.length m.last.length) vw (.slice (some ⟨br, 0, none⟩) m.last.length m.last.length) m.calls,
   Blk bl (lastCells m.last).toArray 72, Blk br (intCells m.reads).toArray 3, Row 97 129 vw m.waits.length (waitCells m.waits)]
def StoreAt (b : Nat) (m : StM) : SP := SP.ex fun x : Nat × Nat × Value => SP.all (storeParts b x.1 x.2.1 x.2.2 m)

theorem StoreAt.out {b : Nat} {m : StM} {w : World} {l : List SP} {S : Nat → Prop} (H : Sep w (StoreAt b m :: l) S) : ∃ bl br vw, Sep w (storeParts b bl br vw m ++ l) S := by
  obtain ⟨⟨bl, br, vw⟩, H⟩ := Sep.ex_iff.1 H
  exact ⟨bl, br, vw, Sep.all_iff.1 H⟩
theorem StoreAt.mk {b : Nat} {m : StM} {w0 w : World} {l : List SP} {S : Nat → Prop} {bl br : Nat} {vw : Value} (H : St S w0 w (storeParts b bl br vw m ++ l)) : St S w0 w (StoreAt b m :: l) :=
  St.ex_iff.2 ⟨(bl, br, vw), St.all_iff.2 H⟩

theorem store_len {b : Nat} {m : StM} {w : World} {l : List SP} {S : Nat → Prop} (H : Sep w (StoreAt b m :: l) S) :
    Calls Tryd.prog 51 #[.pointer (some ⟨b, 0, none⟩)] w fun e w' => e = .returned (.int .i64 m.last.length) ∧ w = w' := by
  obtain ⟨bl, br, vw, H⟩ := StoreAt.out H
  have c0 := cell_blk' (H.blk 0 rfl) (i := 0) rfl
  clear H
  go_enter Tryd.func51, Tryd.ntmps51
  go_wp2
  go_ret
  exact ⟨rfl, rfl⟩

theorem store_in {b : Nat} {m : StM} {at' : Int} {w : World} {l : List SP} {S : Nat → Prop} (H : Sep w (StoreAt b m :: l) S) :
    Calls Tryd.prog 49 #[.pointer (some ⟨b, 0, none⟩), .int .i64 at'] w fun e w' => e = .returned (.bool (m.inn at')) ∧ w = w' := by
  by_cases h0 : 0 ≤ at'
  · have e0 : decide (0 ≤ at') = true := by simpa using h0
    have e1 : m.inn at' = decide (at' < m.last.length) := by simp [StM.inn, h0]
    rw [e1]
    clear e1
    go_enter Tryd.func49, Tryd.ntmps49
    go_wp2_with (go_at_call 51; refine (store_len H).mono ?_; rintro e w' ⟨rfl, rfl⟩)
    go_ret
    exact ⟨rfl, rfl⟩
  · have e0 : decide (0 ≤ at') = false := by simpa using h0
    have e1 : m.inn at' = false := by simp [StM.inn, h0]
    rw [e1]
    clear e1
    go_enter Tryd.func49, Tryd.ntmps49
    go_wp2
    go_ret
    exact ⟨rfl, rfl⟩

theorem store_off {b : Nat} {m : StM} {w : World} {l : List SP} {S : Nat → Prop} (H : Sep w (StoreAt b m :: l) S) :
    Calls Tryd.prog 50 #[.pointer (some ⟨b, 0, none⟩)] w fun e w' => e = .returned (.bool (m.calls == 0)) ∧ w = w' := by
  obtain ⟨bl, br, vw, H⟩ := StoreAt.out H
  have c0 := cell_blk' (H.blk 0 rfl) (i := 3) rfl
  clear H
  go_enter Tryd.func50, Tryd.ntmps50
  go_wp2
  go_ret
  exact ⟨rfl, rfl⟩

theorem Tryd.info97 : (Tryd.prog.info? 97).map (fun i => (i.zero, i.size, i.bytes)) = some (some (.agg ((Value.int .i64 0) :: List.replicate 128 (.int .u8 0)).toArray), 129, 136) := by kernel_rfl

def zeroWait : Value := .agg ((Value.int .i64 0) :: List.replicate 128 (.int .u8 0)).toArray
theorem size_zeroWait : zeroWait.cells.size = 129 := by
  show ((Value.int .i64 0) :: List.replicate 128 (Value.int .u8 0)).toArray.size = 129
  simp
theorem run_load128 {a : Act} {w : World} {dst : Option Tmp} {ty' : TypeId} {pos : String} {after : Array Edge} {g : Option (Nat × Bool)} {x : Operand}
    (hp : plainPtr (a.eval x) = true) (hc : hasCells w (blockOf (a.eval x)) (placeOf (a.eval x)) 128 = true) :
    (execOp a.eval ⟨dst, .load 72 x, ty', pos, after, g⟩).run Tryd.prog w = .ok (.value (.agg (cellsAt w (blockOf (a.eval x)) (placeOf (a.eval x)) 128).toArray)) w :=
  run_load_at Tryd.underlying72 rfl (by kernel_rfl) hp hc
theorem run_store128 {a : Act} {w : World} {dst : Option Tmp} {ty' : TypeId} {pos : String} {after : Array Edge} {g : Option (Nat × Bool)} {x y : Operand}
    (hp : plainPtr (a.eval x) = true) (ho : placeOf (a.eval x) = 0) (hr : rowSize w (blockOf (a.eval x)) = 128) (hv : isAggV (a.eval y) = true) (hs : (aggOf (a.eval y)).size = 128) (h1 : allOne (aggOf (a.eval y)) = true) :
    (execOp a.eval ⟨dst, .store 72 x y, ty', pos, after, g⟩).run Tryd.prog w = .ok .skip (w.setRow (blockOf (a.eval x)) (aggOf (a.eval y))) :=
  run_store_at (by kernel_rfl) (by omega) hp ho hr hv hs h1
theorem run_store129 {a : Act} {w : World} {dst : Option Tmp} {ty' : TypeId} {pos : String} {after : Array Edge} {g : Option (Nat × Bool)} {x y : Operand}
    (hp : plainPtr (a.eval x) = true) (ho : placeOf (a.eval x) = 0) (hr : rowSize w (blockOf (a.eval x)) = 129) (hv : isAggV (a.eval y) = true) (hs : (aggOf (a.eval y)).size = 129) (h1 : allOne (aggOf (a.eval y)) = true) :
    (execOp a.eval ⟨dst, .store 97 x y, ty', pos, after, g⟩).run Tryd.prog w = .ok .skip (w.setRow (blockOf (a.eval x)) (aggOf (a.eval y))) :=
  run_store_at (by kernel_rfl) (by omega) hp ho hr hv hs h1
theorem run_load129 {a : Act} {w : World} {dst : Option Tmp} {ty' : TypeId} {pos : String} {after : Array Edge} {g : Option (Nat × Bool)} {x : Operand}
    (hp : plainPtr (a.eval x) = true) (hc : hasCells w (blockOf (a.eval x)) (placeOf (a.eval x)) 129 = true) :
    (execOp a.eval ⟨dst, .load 97 x, ty', pos, after, g⟩).run Tryd.prog w = .ok (.value (.agg (cellsAt w (blockOf (a.eval x)) (placeOf (a.eval x)) 129).toArray)) w :=
  run_load_at Tryd.underlying97 rfl (by kernel_rfl) hp hc
theorem size_zero128 : Tryd.zeroCells72.size = 128 := by kernel_rfl
theorem size_zero129 : Tryd.zeroCells97.size = 129 := by kernel_rfl
theorem all_wait (x : Int × List UInt8) : allOne (waitCell x).toArray = true := Array.all_eq_true_iff_forall_mem.2 (fun v hv => by
  have hv : v ∈ waitCell x := by simpa using hv
  rcases List.mem_cons.1 hv with rfl | hv
  · rfl
  · exact one_bvs v hv)
theorem fold_wait (v : Value) (cs : List Value) (h : cs.length = 128) : List.foldl (fun (cs : Array Value) (x : Value × Nat) => cs.setIfInBounds (1 + x.snd) x.fst) (Tryd.zeroCells97.setIfInBounds 0 v) cs.zipIdx = (v :: cs).toArray := by
  obtain ⟨g1, g2⟩ := Great.foldl_set 1 cs 0 (Tryd.zeroCells97.setIfInBounds 0 v)
  have hz : Tryd.zeroCells97 = zeroWait.cells := by kernel_rfl
  have hs : Tryd.zeroCells97.size = 129 := by rw [hz]; exact size_zeroWait
  apply Array.ext_getElem?
  intro k
  rw [g2 k]
  simp only [Array.size_setIfInBounds, hs, List.getElem?_toArray, Nat.add_zero, h]
  by_cases h0 : k = 0
  · subst h0
    simp [hs]
  · by_cases h1 : k < 129
    · rw [if_pos ⟨by omega, by omega, h1⟩]
      obtain ⟨k, rfl⟩ : ∃ j, k = j + 1 := ⟨k - 1, by omega⟩
      simp
    · rw [if_neg (by omega), List.getElem?_eq_none (by simp [h]; omega), Array.getElem?_eq_none (by simp [hs]; omega)]
theorem run_one_wait {a : Act} {w : World} {dst : Option Tmp} {ty' : TypeId} {pos : String} {after : Array Edge} {g : Option (Nat × Bool)} {x : Operand}
    (hx : (aggOf (a.eval x)).size = 129) : (execOp a.eval ⟨dst, .buildSlice 58 1 #[(0, x)], ty', pos, after, g⟩).run Tryd.prog w = .ok (.value (.slice (some ⟨w.heap.size, 0, none⟩) 1 1)) (w.alloc (.cells (aggOf (a.eval x)) 97)) :=
  run_one_at Tryd.underlying58 Tryd.info97 (by omega) hx
attribute [local go_sem ↓] run_load128 run_one_wait
attribute [local go_sem] Value.oneCell'

end Go.Proofs.YtaafedpjifaghaaDoor

/- The walks of the store: Read. Conditions: the store's blocks lie as its maker lays them. -/
set_option linter.unusedVariables false
set_option linter.unusedSimpArgs false
namespace Go.Proofs.YtaafedpjifaghaaDoor
open Go.RowKit

attribute [local go_sem ↓] run_load128 run_load129 run_store128 run_store129
attribute [local go_sem] size_zero128 size_zero129

theorem over_snoc (at' : Int) (b : List UInt8) (l : List (Int × List UInt8)) (x : Int × List UInt8) : over at' b (l ++ [x]) = if x.1 = at' then x.2 else over at' b l := by simp [over]
theorem over_len {at' : Int} {x : List UInt8} (hx : x.length = 128) : ∀ {l : List (Int × List UInt8)}, (∀ y ∈ l, y.2.length = 128) → (over at' x l).length = 128 := by
  intro l
  unfold over
  induction l generalizing x with
  | nil => intro _; exact hx
  | cons y l ih =>
    intro h
    rw [List.foldl_cons]
    refine ih ?_ (fun z hz => h z (by simp [hz]))
    split
    · exact h y (by simp)
    · exact hx
set_option maxHeartbeats 2000000 in
set_option maxRecDepth 100000 in
theorem store_read {b : Nat} {m : StM} {at' : Int} {w : World} {S : Nat → Prop} (hg : m.Good) (H : Sep w [StoreAt b m] S) :
    Calls Tryd.prog 24 #[.pointer (some ⟨b, 0, none⟩), .int .i64 at'] w fun e w' => ∃ v, e = .returned (.tuple #[v, .int .i64 (m.read at').2.1]) ∧ St S w w' [BytesAt v (m.read at').1, StoreAt b (m.read at').2.2] := by
  by_cases h1 : m.inn at' = false
  · have hfin : m.read at' = ([], 32, m) := by simp [StM.read, h1]
    rw [hfin]
    go_enter Tryd.func24, Tryd.ntmps24
    go_wp2_with (go_at_call 49; refine (store_in H).mono ?_; rintro e w' ⟨rfl, rfl⟩)
    go_ret2
    exact ⟨_, rfl, BytesAt.nil (St.refl H)⟩
  · have h1' : m.inn at' = true := by simpa using h1
    by_cases h3 : m.calls = 0
    · have hfin : m.read at' = ([], 31, m) := by simp [StM.read, h1', h3]
      rw [hfin]
      have he : (m.calls == 0) = true := by simpa using h3
      clear hfin h1 h3
      go_enter Tryd.func24, Tryd.ntmps24
      go_wp2_with (first
        | (go_at_call 49; refine (store_in H).mono ?_; rintro e w' ⟨rfl, rfl⟩)
        | (go_at_call 50; refine (store_off H).mono ?_; rintro e w' ⟨rfl, rfl⟩))
      go_ret2
      exact ⟨_, rfl, BytesAt.nil (St.refl H)⟩
    · obtain ⟨hA, hB⟩ : 0 ≤ at' ∧ at' < m.last.length := by simpa [StM.inn] using h1'
      obtain ⟨i, rfl⟩ := Int.eq_ofNat_of_zero_le hA
      have hil : i < m.last.length := by omega
      have hir : i < m.reads.length := by have := hg.reads; omega
      obtain ⟨x, hx⟩ : ∃ x, m.last[i]? = some x := ⟨_, List.getElem?_eq_getElem hil⟩
      obtain ⟨r, hr⟩ : ∃ r, m.reads[i]? = some r := ⟨_, List.getElem?_eq_getElem hir⟩
      have hxl := hg.full x (List.mem_of_getElem? hx)
      have hfin : m.read i = (over i x m.waits, 0, { m with reads := m.reads.set i (wrap64 (r + 1)) }) := by
        simp [StM.read, h1', h3, StM.look, List.getD, hx, hr]
      rw [hfin]
      have he : (m.calls == 0) = false := by simpa using h3
      have hcnt := hg.count
      have hH := Lib.hid (StoreAt.mk (St.refl (StoreAt.out H).choose_spec.choose_spec.choose_spec) (l := []))
      obtain ⟨bl, br, vw, H⟩ := StoreAt.out H
      have H := St.refl H
      have hrow := H.row 3 rfl
      have hwl := hg.room
      obtain ⟨ao, cap, hvw, hao⟩ : ∃ ao cap, vw = .slice ao m.waits.length cap ∧ (m.waits.length ≠ 0 → ∃ g, ao = some ⟨g, 0, none⟩) := by
        rcases own_shape hrow with ⟨h, h'⟩ | ⟨g, cap, h, _⟩
        · exact ⟨none, 0, by rw [h, h'], fun hn => absurd h' hn⟩
        · exact ⟨_, cap, h, fun _ => ⟨g, rfl⟩⟩
      clear hrow
      subst hvw
      have hb := H.blk_lt 0 rfl
      have c0 := H.cell 0 0 rfl rfl
      have c1 := H.cell 0 1 rfl rfl
      have c2 := H.cell 0 2 rfl rfl
      have c3 : w.cell? ⟨br, i, none⟩ = some (.int .i64 r) := H.cell 2 i rfl (by simp [intCells, hr])
      have f3 := H.free 2 i rfl
      have H2 : St S w _ [_, _, _, _] := H.set 2 rfl i (.int .i64 (wrap64 (r + 1)))
      have hbr := H.blk_lt 2 rfl
      have hbl := H.blk_lt 1 rfl
      have c0' := H2.cell 0 0 rfl rfl
      have c1' := H2.cell 0 1 rfl rfl
      obtain ⟨q1, q2⟩ := blk_at (ls := m.last.map bvs) (H2.blk 1 rfl) (last_full hg.full) (i := i) (x := bvs x) (by simp [hx])
      have hbx : (bvs x).length = 128 := by rw [length_bvs, hxl]
      have hone := all_bvs x
      clear hfin h1 h3 hA hB
      go_enter Tryd.func24, Tryd.ntmps24
      go_wp2_with (first
        | (go_at_call 49; go_must (refine (store_in hH.out.sep).mono ?_; rintro e w' ⟨rfl, rfl⟩))
        | (go_at_call 50; go_must (refine (store_off hH.out.sep).mono ?_; rintro e w' ⟨rfl, rfl⟩)))
      have H3 : St S w _ [_, _, _, _, _] := H2.allocAt (B := w.heap.size) (by simp) (bvs x).toArray 72
      clear c0 c1 c2 c3 c0' c1' q1 q2 f3 H2
      by_cases hw0 : m.waits.length = 0
      · have hw0' : m.waits = [] := List.eq_nil_of_length_eq_zero hw0
        refine wp_loop_rounds 1 ?_
        rw [rounds_succ]
        go_wp2
        go_ret2
        have hov : over i x m.waits = x := by rw [hw0']; rfl
        rw [hov]
        have H4 := BytesAt.mk H3
        rw [hxl] at H4
        have H6 : St S w _ (StoreAt b { m with reads := m.reads.set i (wrap64 (r + 1)) } :: [_]) := StoreAt.mk (bl := bl) (br := br) (vw := .slice ao m.waits.length cap) (by simpa [storeParts, intCells] using H4.pick [1, 2, 3, 4, 0])
        exact ⟨_, rfl, H6.pick [1, 0]⟩
      · obtain ⟨gw, rfl⟩ := hao hw0
        go_loopw [8, 41] (fun _ j wr => ∃ k : Nat, k ≤ m.waits.length ∧ j = .int .i64 k ∧ St S w wr [Blk w.heap.size (bvs (over i x (m.waits.take k))).toArray 72,
          StoreB b (.slice (some ⟨bl, 0, none⟩) m.last.length m.last.length) (.slice (some ⟨gw, 0, none⟩) m.waits.length cap) (.slice (some ⟨br, 0, none⟩) m.last.length m.last.length) m.calls,
          Blk bl (lastCells m.last).toArray 72, Blk br (intCells (m.reads.set i (wrap64 (r + 1)))).toArray 3, Row 97 129 (.slice (some ⟨gw, 0, none⟩) m.waits.length cap) m.waits.length (waitCells m.waits)])
          (fun _ j _ => m.waits.length - (intOf j).toNat)
        case atStart => exact ⟨0, by omega, rfl, by simpa [over, intCells] using H3⟩
        case round =>
          clear H3
          obtain ⟨k, hk, rfl, HL⟩ := hrel
          have hov := over_len (at' := i) hxl (fun y hy => (hg.waits y (List.mem_of_mem_take hy)).2.2) (l := m.waits.take k)
          by_cases hlt : k < m.waits.length
          · obtain ⟨y, hy⟩ : ∃ y, m.waits[k]? = some y := ⟨_, List.getElem?_eq_getElem hlt⟩
            have hyl := hg.waits y (List.mem_of_getElem? hy)
            obtain ⟨q1, q2⟩ := own_at (ls := m.waits.map waitCell) (HL.row 4 rfl) (wait_full hg.waits) (i := k) (x := waitCell y) (by simp [hy])
            have HA := HL.alloc (waitCell y).toArray 97
            obtain ⟨q3, q4⟩ := blk_part (a := [.int .i64 y.1]) (cs := bvs y.2) (HA.blk 0 rfl) (m := 1) rfl (n := 128) (by rw [length_bvs, hyl.2.2])
            have hys : (waitCell y).length = 129 := by simp [waitCell, length_bvs, hyl.2.2]
            have hby : (bvs y.2).length = 128 := by rw [length_bvs, hyl.2.2]
            have ha1 := all_wait y
            have ha2 := all_bvs y.2
            have hg6 := HL.blk_lt 0 rfl
            have hr6 : rowSize wr w.heap.size = 128 := by rw [rowSize_of (HL.blk 0 rfl)]; simp [length_bvs, hov]
            have hc6 := HA.cell 0 0 rfl (v := .int .i64 y.1) (by simp [waitCell])
            have hsn := over_snoc i x (m.waits.take k) y
            rw [← take_snoc' hy] at hsn
            obtain ⟨y1, y2⟩ := y
            by_cases hyi : y1 = i
            · have hsn' : over i x (m.waits.take (k + 1)) = y2 := by rw [hsn, if_pos hyi]
              have hsn2 := Lib.hid hsn'
              have hyb : (y1 == (i : Int)) = true := by simpa using hyi
              clear hsn hsn' hyi hov
              go_wp2
              go_roundw
              case rel => exact ⟨k + 1, by omega, by go_num, by rw [hsn2.out]; exact (HA.setRow 1 rfl (bvs y2).toArray).tail⟩
              case measure => simp [intOf]; omega
            · have hsn' : over i x (m.waits.take (k + 1)) = over i x (m.waits.take k) := by rw [hsn, if_neg hyi]
              have hsn2 := Lib.hid hsn'
              have hyb : (y1 == (i : Int)) = false := by simpa using hyi
              clear hsn hsn' hyi hov
              go_wp2
              go_roundw
              case rel => exact ⟨k + 1, by omega, by go_num, by rw [hsn2.out]; exact HA.tail⟩
              case measure => simp [intOf]; omega
          · obtain rfl : k = m.waits.length := by omega
            rw [List.take_length] at HL hov
            go_wp2
            go_ret2
            have H4 := BytesAt.mk HL
            rw [hov] at H4
            have H6 : St S w _ (StoreAt b { m with reads := m.reads.set i (wrap64 (r + 1)) } :: [_]) := StoreAt.mk (bl := bl) (br := br) (vw := .slice (some ⟨gw, 0, none⟩) m.waits.length cap) (by simpa [storeParts, intCells] using H4.pick [1, 2, 3, 4, 0])
            exact ⟨_, rfl, H6.pick [1, 0]⟩

end Go.Proofs.YtaafedpjifaghaaDoor

/- The walks of the store: what is settled, Sync, Crash, Waits. Conditions: the store's blocks lie as its maker lays them. -/
set_option linter.unusedVariables false
set_option linter.unusedSimpArgs false
namespace Go.Proofs.YtaafedpjifaghaaDoor
open Go.RowKit
attribute [local go_sem ↓] run_load128 run_load129 run_store128 run_store129
attribute [local go_sem] size_zero128 size_zero129

theorem settleFrom_snoc (lasts : Nat → Nat) : ∀ (l : List (Int × List UInt8)) (i : Nat) (x : Int × List UInt8) (b : List (List UInt8)),
    settleFrom lasts i (l ++ [x]) b = (settleFrom lasts i l b).set x.1.toNat (x.2.take (lasts (i + l.length)) ++ ((settleFrom lasts i l b).getD x.1.toNat []).drop (lasts (i + l.length)))
  | [], i, x, b => by simp [settleFrom]
  | y :: l, i, x, b => by
    simp only [List.cons_append, settleFrom]
    rw [settleFrom_snoc lasts l (i + 1) x _]
    simp only [List.length_cons]
    rw [show i + 1 + l.length = i + (l.length + 1) from by omega]
theorem settleFrom_good (lasts : Nat → Nat) (n : Nat) : ∀ (l : List (Int × List UInt8)) (i : Nat) (b : List (List UInt8)), (∀ x ∈ l, 0 ≤ x.1 ∧ x.1 < (n : Int) ∧ x.2.length = 128) → b.length = n → (∀ x ∈ b, x.length = 128) → (∀ j, lasts j ≤ 128) →
    (settleFrom lasts i l b).length = n ∧ ∀ x ∈ settleFrom lasts i l b, x.length = 128
  | [], i, b, _, hb, hf, _ => ⟨hb, hf⟩
  | y :: l, i, b, h, hb, hf, hl => by
    refine settleFrom_good lasts n l (i + 1) _ (fun x hx => h x (by simp [hx])) (by simp [hb]) (fun x hx => ?_) hl
    rcases List.mem_or_eq_of_mem_set hx with hx | rfl
    · exact hf x hx
    · have hy := h y (by simp)
      have hlt : y.1.toNat < b.length := by omega
      have := hf _ (List.getElem_mem hlt)
      simp only [List.getD, List.getElem?_eq_getElem hlt, Option.getD_some, List.length_append, List.length_take, List.length_drop, hy.2.2, this]
      have := hl i
      omega

theorem lastCells_len {l : List (List UInt8)} (h : ∀ x ∈ l, x.length = 128) : (lastCells l).length = l.length * 128 := by
  unfold lastCells
  rw [flat_len (last_full h)]; simp

end Go.Proofs.YtaafedpjifaghaaDoor

/- The walks of the store: Sync, Crash, Waits. Conditions: the store's blocks lie as its maker lays them; what is handed in can be read. -/
set_option linter.unusedVariables false
set_option linter.unusedSimpArgs false
namespace Go.Proofs.YtaafedpjifaghaaDoor
open Go.RowKit
attribute [local go_sem ↓] run_load128 run_load129 run_store128 run_store129
attribute [local go_sem] size_zero128 size_zero129

theorem spend_good {m : StM} (hg : m.Good) : m.spend.Good := ⟨hg.count, hg.full, hg.reads, hg.waits, hg.room, by
  have := hg.calls
  simp only [StM.spend, spendC]
  split <;> omega⟩

def lastOne (keep : List Bool) (torn : Int) (cut : Nat) (i : Nat) : Nat := if (i : Int) = torn then cut else if keep.getD i false then 128 else 0

theorem lastOne_crash (keep : List Bool) (torn cut : Int) : lastOne keep torn (cutOf cut) = crashLasts keep torn cut := rfl
theorem lastOne_le (keep : List Bool) (torn : Int) {cut : Nat} (h : cut ≤ 128) (i : Nat) : lastOne keep torn cut i ≤ 128 := by
  unfold lastOne
  split
  · exact h
  · split <;> omega

theorem crash_is (m : StM) (keep : List Bool) (torn cut : Int) : m.crash keep torn cut = { (m.settle (lastOne keep torn (cutOf cut))) with calls := -1 } := rfl

end Go.Proofs.YtaafedpjifaghaaDoor

/- The walks of the store: Waits; a new one. Conditions: the store's blocks lie as its maker lays them. -/
set_option linter.unusedVariables false
set_option linter.unusedSimpArgs false
namespace Go.Proofs.YtaafedpjifaghaaDoor
open Go.RowKit
attribute [local go_sem ↓] run_load128 run_load129 run_store128 run_store129
attribute [local go_sem] size_zero128 size_zero129

/-- A new store, as plain data. -/
def newStore (n : Nat) : StM := ⟨List.replicate n (List.replicate 128 0), [], List.replicate n 0, -1⟩

theorem replicate_flat {α : Type} (n k : Nat) (x : α) : (List.replicate n (List.replicate k x)).flatten = List.replicate (n * k) x := by
  induction n with
  | zero => simp
  | succ n ih => rw [List.replicate_succ, List.flatten_cons, ih, List.replicate_append_replicate, Nat.succ_mul, Nat.add_comm]
theorem made_all (v : Value) (cs : Array Value) (n : Nat) (h : ∀ i, i < cs.size → cs[i]? = some v) (hs : 0 < cs.size) : madeCells cs n = (List.replicate n v).toArray := by
  apply Array.ext_getElem?
  intro i
  unfold madeCells
  by_cases hi : i < n
  · have h1 := h (i % cs.size) (Nat.mod_lt _ hs)
    have h2 : cs[i % cs.size]! = v := by simp only [getElem!_def, h1]
    simp [hi, h2]
  · rw [Array.getElem?_eq_none (by simp; omega), Array.getElem?_eq_none (by simp; omega)]
theorem noughtCells_eq (n : Nat) : noughtCells n = (lastCells (newStore n).last).toArray := by
  unfold noughtCells lastCells newStore
  rw [made_all (.int .u8 0) _ _ (fun i hi => by
    have hi' : i < 128 := by simpa [Value.cells] using hi
    simp [Value.cells, hi']) (by simp [Value.cells])]
  simp only [List.map_replicate, bvs]
  rw [replicate_flat]
  rfl
theorem zeroCells_eq (n : Nat) : zeroCells n = (intCells (newStore n).reads).toArray := by
  unfold zeroCells intCells newStore
  rw [made_all (.int .i64 0) _ _ (fun i hi => by
    have hi' : i = 0 := by simpa [Value.cells] using hi
    subst hi'; simp [Value.cells]) (by simp [Value.cells])]
  simp

theorem newStore_good {n : Nat} (h1 : 1 ≤ n) (h2 : n ≤ 4096) : (newStore n).Good :=
  ⟨by simp [newStore]; omega, fun x hx => by simp only [newStore, List.mem_replicate] at hx; rw [hx.2]; simp, by simp [newStore], fun x hx => by simp [newStore] at hx, by simp [newStore], by simp [newStore]⟩

theorem store_made (n : Nat) (h1 : 1 ≤ n) (h2 : n ≤ 4096) (w : World) :
    Calls Tryd.prog 7 #[.int .i64 n] w fun e w' => ∃ b, e = .returned (.tuple #[.pointer (some ⟨b,0,none⟩), .int .i64 0]) ∧ St (fun _ => False) w w' [StoreAt b (newStore n)] := by
  refine (store_new n h1 h2 w).mono fun e w' ⟨b, bl, br, he, H⟩ => ⟨b, he, ?_⟩
  rw [noughtCells_eq, zeroCells_eq] at H
  refine StoreAt.mk (bl := bl) (br := br) (vw := .slice none 0 0) ?_
  have H2 := (H.row_nil 97 129).pick [1, 2, 3, 0]
  simpa [storeParts, newStore, waitCells] using H2

end Go.Proofs.YtaafedpjifaghaaDoor

/- The walks of the store: Image; bytes as a text. Conditions: the store's blocks lie as its maker lays them. -/
set_option linter.unusedVariables false
set_option linter.unusedSimpArgs false
namespace Go.Proofs.YtaafedpjifaghaaDoor
open Go.RowKit
attribute [local go_sem ↓] run_load128 run_load129 run_store128 run_store129
attribute [local go_sem] size_zero128 size_zero129


set_option maxHeartbeats 2000000 in
set_option maxRecDepth 100000 in
theorem store_image {b : Nat} {m : StM} {w : World} {S : Nat → Prop} (hg : m.Good) (H : Sep w [StoreAt b m] S) :
    Calls Tryd.prog 14 #[.pointer (some ⟨b, 0, none⟩)] w fun e w' => ∃ v, e = .returned v ∧ St S w w' [Row 5 1 v (m.last.length * 128) (bvs m.last.flatten), StoreAt b m] := by
  obtain ⟨bl, br, vw, H⟩ := StoreAt.out H
  have H := St.refl H
  have hcnt := hg.count
  have hb := H.blk_lt 0 rfl
  have c1 := H.cell 0 0 rfl rfl
  go_enter Tryd.func14, Tryd.ntmps14
  go_wp2
  go_loopw [3, 4, 12] (fun v _ j wr => ∃ k : Nat, k ≤ m.last.length ∧ j = .int .i64 k ∧ St S w wr [Row 5 1 v (k * 128) (bvs (m.last.take k).flatten),
      StoreB b (.slice (some ⟨bl, 0, none⟩) m.last.length m.last.length) vw (.slice (some ⟨br, 0, none⟩) m.last.length m.last.length) m.calls,
      Blk bl (lastCells m.last).toArray 72, Blk br (intCells m.reads).toArray 3, Row 97 129 vw m.waits.length (waitCells m.waits)])
      (fun _ _ j _ => m.last.length - (intOf j).toNat)
  case atStart => exact ⟨0, by omega, rfl, H.row_nil 5 1⟩
  case round =>
    clear c1 hb
    obtain ⟨k, hk, rfl, HL⟩ := hrel
    by_cases hlt : k < m.last.length
    · obtain ⟨x, hx⟩ : ∃ x, m.last[k]? = some x := ⟨_, List.getElem?_eq_getElem hlt⟩
      have hxl := hg.full x (List.mem_of_getElem? hx)
      have hsn := Lib.hid (take_snoc' hx)
      have c0 := HL.cell 1 0 rfl rfl
      have hcs : ∀ j u, (bvs x)[j]? = some u → wr.cell? ((⟨bl, k * 128, none⟩ : Addr).add j) = some u := by
        intro j u hj
        have hjl : j < 128 := by have := (List.getElem?_eq_some_iff.1 hj).1; rw [length_bvs, hxl] at this; exact this
        rw [Addr.add_mid, cell_blk (HL.blk 2 rfl), List.getElem?_toArray]
        exact (flat_get (last_full hg.full) (i := k) (x := bvs x) (by simp [hx]) hjl).trans hj
      have hlen : (bvs x).length = 128 * 1 := by rw [length_bvs, hxl]
      have hbytes : (k * 128 + 128) * 1 ≤ 140737488355328 := by omega
      go_wp2_with (at_builtin; go_must (refine St.list_app HL 0 rfl rfl (.tmp 15) (.tmp 22) 38 rfl Tryd.underlying38 Tryd.info5 (by decide) rfl (ad := ⟨bl, k * 128, none⟩) (m := 128) (bvs x) rfl hlen hcs one_bvs (by omega) hbytes ?_; intro g2 cap2 w3 H3 hz3))
      go_roundw
      case rel => exact ⟨k + 1, by omega, by go_num, by rw [hsn.out, List.flatten_append, Nat.add_mul]; simpa [bvs_append] using H3⟩
      case measure => simp [intOf]; omega
    · obtain rfl : k = m.last.length := by omega
      rw [List.take_length] at HL
      go_wp2
      go_ret
      have H2 : St S w _ (StoreAt b m :: [_]) := StoreAt.mk (bl := bl) (br := br) (vw := vw) (HL.pick [1, 2, 3, 4, 0])
      exact ⟨_, rfl, H2.pick [1, 0]⟩

end Go.Proofs.YtaafedpjifaghaaDoor
