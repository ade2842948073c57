/- Arrays by value in a walk: built, loaded from the middle of a block, copied. Laws over any program. No condition of its own. -/
import Derived.Test.YtoffcoegghigoaaSep
import Derived.Test.YtoffcoegghigoaaStoreM
import Derived.Laws.CopyOwn
import Derived.Deep.MidRow
import Derived.Great.BuildSlice
import Derived.StillTailTactics
import Derived.Laws.Cover3
namespace Go.Proofs.Ytoffcoegghigoaa
open Go.RowKit

section
variable {P : Program} {ops : Array Oper} {w : World}
theorem fill_one (place : Nat → Option (Nat × Nat)) (i off : Nat) (v : Value) (rest : List (Nat × Value)) (cells : Array Value) (hp : place i = some (off, v.cells.size)) (hle : off + v.cells.size ≤ cells.size) :
    Instr.fill place cells ((i, v) :: rest) = Instr.fill place (splice cells.toList off v.cells.toList).toArray rest := by
  conv => lhs; unfold Instr.fill
  rw [hp]
  dsimp only
  rw [if_neg (by simp; omega)]
  congr 1
  obtain ⟨g1, g2⟩ := Great.foldl_set off v.cells.toList 0 cells
  have e : v.cells.zipIdx.foldl (fun cs (x : Value × Nat) => cs.setIfInBounds (off + x.2) x.1) cells = ((v.cells.toList.zipIdx 0).foldl (fun cs (x : Value × Nat) => cs.setIfInBounds (off + x.2) x.1) cells) := by
    rw [← Array.foldl_toList, Array.toList_zipIdx]
  show v.cells.zipIdx.foldl (fun cs (x : Value × Nat) => cs.setIfInBounds (off + x.2) x.1) cells = _
  rw [e]
  apply Array.ext_getElem?
  intro k
  rw [g2 k]
  simp only [splice, Nat.add_zero, List.getElem?_toArray, Array.length_toList]
  by_cases h1 : k < off
  · rw [if_neg (by omega), List.getElem?_append_left (by simp; omega), List.getElem?_take, if_pos h1]; simp
  · rw [List.getElem?_append_right (by simp; omega)]
    have el : (List.take off cells.toList).length = off := by simp; omega
    rw [el]
    by_cases h2 : k < off + v.cells.size
    · rw [if_pos ⟨by omega, by omega, by omega⟩, List.getElem?_append_left (by simp; omega)]
    · rw [if_neg (by omega), List.getElem?_append_right (by simp; omega), List.getElem?_drop]
      simp only [Array.length_toList, Array.getElem?_toList]
      congr 1; omega

/-- An operation that yields a value, as one step of the head of a region that draws. -/
theorem wpStill_val {Q : Act → Prop} {a : Act} {o : Oper} {rest : List Oper} (hgd : o.guard = none) {v : Value} (hrun : (execOp a.eval o).run P w = .ok (.value v) w) (h : wpStill P ops w Q rest (a.put o.dst v)) :
    wpStill P ops w Q (o :: rest) a := by
  refine wpStill_step fun K hK => ?_
  rw [if_pos (by simp [Region.wanted, hgd])]
  show o.stillUpon P a w K ((execOp a.eval o).run P w)
  rw [hrun, Oper.stillUpon_value]
  exact hK _ h
theorem wpStill_load {Q : Act → Prop} {a : Act} {o : Oper} {rest : List Oper} (hgd : o.guard = none) (ty : TypeId) (x : Operand) (ho : o.op = .load ty x)
    (b off : Nat) (hx : a.eval x = .pointer (some ⟨b, off, none⟩)) (cs : List Value) (d : TypeDesc) (hc : w.rangeAt b off cs) (hu : P.underlying ty = some d) (hd : d.isRow = true) (hi : (P.info? ty).map (·.size) = some cs.length)
    (h : wpStill P ops w Q rest (a.put o.dst (.agg cs.toArray))) : wpStill P ops w Q (o :: rest) a := by
  refine wpStill_val hgd ?_ h
  unfold execOp
  simp only [ho, hx, Instr.loadAt, Instr.sureAddr, Sem.run_bind, Sem.run_pure, Result.andThen_ok, run_loadVar_mid w b off ty cs d hc hu hd hi]
theorem wpStill_arrayAt {Q : Act → Prop} {a : Act} {o : Oper} {rest : List Oper} (hgd : o.guard = none) (arr : TypeId) (x : Operand) (ho : o.op = .sliceToArrayPointer arr x) {e : TypeId} {n len cap : Nat} {ad : Option Addr}
    (hx : a.eval x = .slice ad len cap) (hu : P.underlying arr = some (.array n e)) (hn : n ≤ len) (h : wpStill P ops w Q rest (a.put o.dst (.pointer ad))) : wpStill P ops w Q (o :: rest) a := by
  refine wpStill_val hgd ?_ h
  unfold execOp
  simp only [ho, hx, Sem.run_bind, run_arrayAt w arr e n ad len cap hu hn, Result.andThen_ok]
  rfl
/-- A region that draws, its head only reading: the head, then the tail in the order of the text; behind the one draw. -/
theorem wp_tail {id : Nat} {Q : Exit → Act → World → Prop} {a : Act} {l : List Oper} (n : Nat) (hm : P.follows .mixedOrders = true) (hB : Region.lexTailB .any l.toArray n = true)
    (h : wpStill P l.toArray w.drew (fun a' => wpList P l.toArray Q (l.drop n) a' w.drew) (l.take n) a) : (Code.region id l.toArray true).wp P Q a w := wp_region_still_tail n hm hB h
/-! What an operation comes to, as an equation that the walk takes for a rule. -/
theorem wp_val_eq {o : Oper} {a : Act} {K : Act → World → Prop} {Q : Exit → Act → World → Prop} {v : Value} {w' : World} (hrun : (execOp a.eval o).run P w = .ok (.value v) w') : Oper.wp P o a w K Q = K (a.put o.dst v) w' := by
  unfold Oper.wp; rw [hrun]; rfl
theorem wp_load_eq {a : Act} {K : Act → World → Prop} {Q : Exit → Act → World → Prop} {dst : Option Tmp} {ty' : TypeId} {pos : String} {after : Array Edge} (t : TypeId) (x : Operand) (b off : Nat) (cs : List Value) (d : TypeDesc)
    (hx : a.eval x = .pointer (some ⟨b, off, none⟩)) (hc : w.rangeAt b off cs) (hu : P.underlying t = some d) (hd : d.isRow = true) (hi : (P.info? t).map (·.size) = some cs.length) :
    Oper.wp P ⟨dst, .load t x, ty', pos, after, none⟩ a w K Q = K (a.put dst (.agg cs.toArray)) w := by
  refine wp_val_eq ?_
  unfold execOp
  simp only [hx, Instr.loadAt, Instr.sureAddr, Sem.run_bind, Sem.run_pure, Result.andThen_ok, run_loadVar_mid w b off t cs d hc hu hd hi]
theorem wp_arrayAt_eq {a : Act} {K : Act → World → Prop} {Q : Exit → Act → World → Prop} {dst : Option Tmp} {ty' : TypeId} {pos : String} {after : Array Edge} (arr : TypeId) (x : Operand) {e : TypeId} {n len cap : Nat} {ad : Option Addr}
    (hx : a.eval x = .slice ad len cap) (hu : P.underlying arr = some (.array n e)) (hn : n ≤ len) : Oper.wp P ⟨dst, .sliceToArrayPointer arr x, ty', pos, after, none⟩ a w K Q = K (a.put dst (.pointer ad)) w := by
  refine wp_val_eq ?_
  unfold execOp
  simp only [hx, Sem.run_bind, run_arrayAt w arr e n ad len cap hu hn, Result.andThen_ok]
  rfl
theorem wp_build_eq {a : Act} {K : Act → World → Prop} {Q : Exit → Act → World → Prop} {dst : Option Tmp} {ty' : TypeId} {pos : String} {after : Array Edge} (t : TypeId) (parts : Array (Nat × Operand)) {cells : Array Value} {ps : List (Nat × Value)}
    (hps : (parts.map fun (i, x) => (i, a.eval x)).toList = ps) (hb : P.built t ps = some cells) : Oper.wp P ⟨dst, .build t parts, ty', pos, after, none⟩ a w K Q = K (a.put dst (.agg cells)) w := by
  subst hps
  refine wp_val_eq ?_
  unfold execOp
  simp only [Sem.run_bind, run_build w t _ _ hb, Result.andThen_ok]
  rfl
theorem fill_whole {e : TypeId} {z : Value} {size bytes : Nat} (hinfo : (P.info? e).map (fun i => (i.zero, i.size, i.bytes)) = some (some z, size, bytes)) {v : Value} (hv : v.cells.size = size) :
    ∃ i, P.info? e = some i ∧ i.zero = some z ∧ i.size = size ∧ Instr.fill (fun j => some (j * i.size, i.size)) ((Array.range (1 * i.size)).map (z.cells[· % z.cells.size]!)) [(0, v)] = some v.cells := by
  obtain ⟨i, hi, hz, hs, hb⟩ := info_parts hinfo
  refine ⟨i, hi, hz, hs, ?_⟩
  rw [fill_one _ 0 0 _ _ _ (by simp [hs, hv]) (by simp [hs, hv])]
  simp only [Instr.fill, hs]
  congr 1
  apply Array.ext_getElem?
  intro k
  simp only [splice, List.take_zero, List.nil_append, Nat.zero_add]
  rw [List.drop_of_length_le (by simp [hv]), List.append_nil, Array.toArray_toList]
theorem wp_one_eq {a : Act} {K : Act → World → Prop} {Q : Exit → Act → World → Prop} {dst : Option Tmp} {ty' : TypeId} {pos : String} {after : Array Edge} (t : TypeId) (x : Operand)
    {e : TypeId} {z : Value} {size bytes : Nat} {v : Value} (hx : a.eval x = v) (ht : P.underlying t = some (.slice e)) (hinfo : (P.info? e).map (fun i => (i.zero, i.size, i.bytes)) = some (some z, size, bytes)) (hzs : 0 < size ∧ size ≤ 65536)
    (hv : v.cells.size = size) : Oper.wp P ⟨dst, .buildSlice t 1 #[(0, x)], ty', pos, after, none⟩ a w K Q = K (a.put dst (.slice (some ⟨w.heap.size, 0, none⟩) 1 1)) (w.alloc (.cells v.cells e)) := by
  obtain ⟨i, hi, hz, hs, hf⟩ := fill_whole hinfo hv
  refine wp_val_eq ?_
  unfold execOp
  simp only [Sem.run_bind, List.map_toArray, List.map_cons, List.map_nil, hx]
  rw [run_buildSlice w t e 1 _ v.cells i z ht hi hz (by rw [hs]; omega) (by rw [hs]; omega) hf]
  rfl

/-- Cells of a block from a place on, as a list; and whether they are there. -/
def cellsAt (w : World) (b o n : Nat) : List Value := (List.range n).map fun j => (w.cell? ⟨b, o + j, none⟩).getD undef
def hasCells (w : World) (b o n : Nat) : Bool := (List.range n).all fun j => (w.cell? ⟨b, o + j, none⟩).isSome
def blockOf : Value → Nat | .pointer (some a) => a.block | _ => 0
def placeOf : Value → Nat | .pointer (some a) => a.off | _ => 0
def plainPtr : Value → Bool | .pointer (some a) => a.spot.isNone | _ => false
@[go_sem] theorem cellsAt_drew (b o n : Nat) : cellsAt w.drew b o n = cellsAt w b o n := rfl
@[go_sem] theorem hasCells_drew (b o n : Nat) : hasCells w.drew b o n = hasCells w b o n := rfl
@[go_sem] theorem blockOf_lit (b o : Nat) : blockOf (.pointer (some ⟨b, o, none⟩)) = b := rfl
@[go_sem] theorem placeOf_lit (b o : Nat) : placeOf (.pointer (some ⟨b, o, none⟩)) = o := rfl
@[go_sem] theorem plainPtr_lit (b o : Nat) : plainPtr (.pointer (some ⟨b, o, none⟩)) = true := rfl
theorem rangeAt_cellsAt {b o n : Nat} (h : hasCells w b o n = true) : w.rangeAt b o (cellsAt w b o n) := fun j v hv => by
  have hj : j < n := by have := (List.getElem?_eq_some_iff.1 hv).1; simpa [cellsAt] using this
  simp only [cellsAt, List.getElem?_map, List.getElem?_range hj, Option.map_some, Option.some.injEq] at hv
  have h2 := List.all_eq_true.1 h j (by simpa using hj)
  obtain ⟨u, hu⟩ := Option.isSome_iff_exists.1 h2
  rw [hu] at hv ⊢
  simpa using hv
theorem cellsAt_of_range {b o n : Nat} {cs : List Value} (h : w.rangeAt b o cs) (hn : cs.length = n) : cellsAt w b o n = cs ∧ hasCells w b o n = true := by
  subst hn
  constructor
  · apply List.ext_getElem?
    intro j
    by_cases hj : j < cs.length
    · simp only [cellsAt, List.getElem?_map, List.getElem?_range hj, Option.map_some]
      rw [h j _ (List.getElem?_eq_getElem hj), List.getElem?_eq_getElem hj]; rfl
    · rw [List.getElem?_eq_none (by simp [cellsAt]; omega), List.getElem?_eq_none (by omega)]
  · refine List.all_eq_true.2 fun j hj => ?_
    have hj' : j < cs.length := by simpa using hj
    rw [h j _ (List.getElem?_eq_getElem hj')]; rfl
theorem wp_load_at {a : Act} {K : Act → World → Prop} {Q : Exit → Act → World → Prop} {dst : Option Tmp} {ty' : TypeId} {pos : String} {after : Array Edge} {t : TypeId} {x : Operand} {d : TypeDesc} {n : Nat}
    (hu : P.underlying t = some d) (hd : d.isRow = true) (hi : (P.info? t).map (·.size) = some n) (hp : plainPtr (a.eval x) = true) (hc : hasCells w (blockOf (a.eval x)) (placeOf (a.eval x)) n = true) :
    Oper.wp P ⟨dst, .load t x, ty', pos, after, none⟩ a w K Q = K (a.put dst (.agg (cellsAt w (blockOf (a.eval x)) (placeOf (a.eval x)) n).toArray)) w := by
  cases hv : a.eval x with
  | pointer q =>
    cases q with
    | none => rw [hv] at hp; cases hp
    | some ad =>
      obtain ⟨b, o, sp⟩ := ad
      rw [hv] at hp hc
      obtain rfl : sp = none := by simpa [plainPtr] using hp
      exact wp_load_eq t x b o _ d hv (rangeAt_cellsAt hc) hu hd (by rw [hi]; simp [cellsAt])
  | _ => rw [hv] at hp; cases hp

theorem run_load_at {a : Act} {dst : Option Tmp} {ty' : TypeId} {pos : String} {after : Array Edge} {g : Option (Nat × Bool)} {t : TypeId} {x : Operand} {d : TypeDesc} {n : Nat}
    (hu : P.underlying t = some d) (hd : d.isRow = true) (hi : (P.info? t).map (·.size) = some n) (hp : plainPtr (a.eval x) = true) (hc : hasCells w (blockOf (a.eval x)) (placeOf (a.eval x)) n = true) :
    (execOp a.eval ⟨dst, .load t x, ty', pos, after, g⟩).run P w = .ok (.value (.agg (cellsAt w (blockOf (a.eval x)) (placeOf (a.eval x)) n).toArray)) w := by
  cases hv : a.eval x with
  | pointer q =>
    cases q with
    | none => rw [hv] at hp; cases hp
    | some ad =>
      obtain ⟨b, o, sp⟩ := ad
      rw [hv] at hp hc
      obtain rfl : sp = none := by simpa [plainPtr] using hp
      unfold execOp
      simp only [hv, Instr.loadAt, Instr.sureAddr, Sem.run_bind, Sem.run_pure, Result.andThen_ok, run_loadVar_mid w b o t _ d (rangeAt_cellsAt hc) hu hd (by rw [hi]; simp [cellsAt])]
      rfl
  | _ => rw [hv] at hp; cases hp
theorem run_build_at {a : Act} {dst : Option Tmp} {ty' : TypeId} {pos : String} {after : Array Edge} {g : Option (Nat × Bool)} {t : TypeId} {parts : Array (Nat × Operand)} {cells : Array Value} {ps : List (Nat × Value)}
    (hps : (parts.map fun (i, x) => (i, a.eval x)).toList = ps) (hb : P.built t ps = some cells) : (execOp a.eval ⟨dst, .build t parts, ty', pos, after, g⟩).run P w = .ok (.value (.agg cells)) w := by
  subst hps
  unfold execOp
  simp only [Sem.run_bind, run_build w t _ _ hb, Result.andThen_ok]
  rfl
def aggOf : Value → Array Value | .agg cs => cs | v => #[v]
@[go_sem] theorem aggOf_lit (cs : Array Value) : aggOf (.agg cs) = cs := rfl
theorem aggOf_cells (v : Value) : aggOf v = v.cells := by cases v <;> rfl
/-- A slice literal of one element of many cells, as an equation. -/
theorem wp_one_at {a : Act} {K : Act → World → Prop} {Q : Exit → Act → World → Prop} {dst : Option Tmp} {ty' : TypeId} {pos : String} {after : Array Edge} {t : TypeId} {x : Operand}
    {e : TypeId} {z : Value} {size bytes : Nat} (ht : P.underlying t = some (.slice e)) (hinfo : (P.info? e).map (fun i => (i.zero, i.size, i.bytes)) = some (some z, size, bytes)) (hzs : 0 < size ∧ size ≤ 65536)
    (hv : (aggOf (a.eval x)).size = size) : Oper.wp P ⟨dst, .buildSlice t 1 #[(0, x)], ty', pos, after, none⟩ a w K Q = K (a.put dst (.slice (some ⟨w.heap.size, 0, none⟩) 1 1)) (w.alloc (.cells (aggOf (a.eval x)) e)) := by
  rw [aggOf_cells] at hv ⊢
  exact wp_one_eq t x rfl ht hinfo hzs hv

theorem run_one_at {a : Act} {dst : Option Tmp} {ty' : TypeId} {pos : String} {after : Array Edge} {g : Option (Nat × Bool)} {t : TypeId} {x : Operand}
    {e : TypeId} {z : Value} {size bytes : Nat} (ht : P.underlying t = some (.slice e)) (hinfo : (P.info? e).map (fun i => (i.zero, i.size, i.bytes)) = some (some z, size, bytes)) (hzs : 0 < size ∧ size ≤ 65536)
    (hv : (aggOf (a.eval x)).size = size) : (execOp a.eval ⟨dst, .buildSlice t 1 #[(0, x)], ty', pos, after, g⟩).run P w = .ok (.value (.slice (some ⟨w.heap.size, 0, none⟩) 1 1)) (w.alloc (.cells (aggOf (a.eval x)) e)) := by
  rw [aggOf_cells] at hv ⊢
  obtain ⟨i, hi, hz, hs, hf⟩ := fill_whole hinfo hv
  unfold execOp
  simp only [Sem.run_bind, List.map_toArray, List.map_cons, List.map_nil]
  rw [run_buildSlice w t e 1 _ (a.eval x).cells i z ht hi hz (by rw [hs]; omega) (by rw [hs]; omega) hf]
  rfl

/-- Where the parts of a struct lie in it. -/
def structPlaces (P : Program) (t : TypeId) : Option (List (Nat × Nat)) :=
  match P.underlying t with
  | some (.struct fields) => fields.toList.mapM (fun f => (P.info? f.type).map fun i => (f.offset, i.size))
  | _ => none
theorem built_struct {t : TypeId} {places : List (Nat × Nat)} {z : Value} {size bytes : Nat} (hp : structPlaces P t = some places) (hi : (P.info? t).map (fun i => (i.zero, i.size, i.bytes)) = some (some z, size, bytes)) (parts : List (Nat × Value)) :
    P.built t parts = Instr.fill (places.toArray[·]?) z.cells parts := by
  obtain ⟨i, hi, hz, _, _⟩ := info_parts hi
  unfold structPlaces at hp
  unfold Program.built
  cases hu : P.underlying t with
  | none => simp [hu] at hp
  | some d =>
    cases d with
    | struct fields =>
      simp only [hu] at hp
      simp only [hi, hz, hp]
    | _ => simp [hu] at hp
theorem wpStill_build {Q : Act → Prop} {a : Act} {o : Oper} {rest : List Oper} (hgd : o.guard = none) (t : TypeId) (parts : Array (Nat × Operand)) (ho : o.op = .build t parts) {cells : Array Value}
    {ps : List (Nat × Value)} (hb : P.built t ps = some cells) (hps : (parts.map fun (i, x) => (i, a.eval x)).toList = ps) (h : wpStill P ops w Q rest (a.put o.dst (.agg cells))) : wpStill P ops w Q (o :: rest) a := by
  subst hps
  refine wpStill_val hgd ?_ h
  unfold execOp
  simp only [ho, Sem.run_bind, run_build w t _ _ hb, Result.andThen_ok]
  rfl
end

section
variable {P : Program} {S : Nat → Prop} {w0 w : World} {l : List SP}
/-- A row whose cells are laid anew. -/
theorem St.setRow (h : St S w0 w l) (i : Nat) {b : Nat} {cs : Array Value} {t : TypeId} (hi : l[i]? = some (Blk b cs t)) (cs' : Array Value) : St S w0 (w.setRow b cs') (l.set i (Blk b cs' t)) := by
  obtain ⟨S1, h1, h2⟩ := h.turn i hi
  refine h2 (S1' := S1) ⟨rfl, rfl, rfl, by simp, fun k _ hk => setRow_other w b k cs' (fun e => hk ((h1.2 k).2 e))⟩ ⟨setRow_heap w b _ cs' t _ h1.1, h1.2⟩ (fun _ a => .inl a)

/-- 'copy' into a block that is known whole, as an operation of a plain list. -/
theorem St.list_copy (H : St S w0 w l) (i : Nat) {g : Nat} {cur : List Value} {t : TypeId} (hi' : l[i]? = some (Blk g cur.toArray t))
    {ops : Array Oper} {rest : List Oper} {o : Oper} {a : Act} {Q : Exit → Act → World → Prop} (hgd : o.guard = none) (d s : Operand) (dT sT : TypeId)
    (ho : o.op = .call { callee := .builtin .copy, args := #[d, s], argTypes := #[dT, sT] }) (elem : TypeId) (hu : P.underlying dT = some (.slice elem)) (hsz : (P.info? elem).map (·.size) = some 1)
    (off dLen dCap sLen sCap : Nat) (sp : Option Addr) (hd : a.eval d = .slice (some ⟨g, off, none⟩) dLen dCap) (hs : a.eval s = .slice sp sLen sCap) (cs : List Value) (hn : cs.length = Nat.min sLen dLen)
    (hsrc : 0 < cs.length → ∃ ad, sp = some ad ∧ ∀ j v, cs[j]? = some v → w.cell? (ad.add j) = some v) (hfit : off + cs.length ≤ cur.length) (h1 : ∀ v ∈ cs, v.oneCell' = true)
    (h : ∀ w', St S w0 w' (l.set i (Blk g (splice cur off cs).toArray t)) → w.heap.size ≤ w'.heap.size → wpList P ops Q rest (a.put o.dst (goInt cs.length)) w') :
    wpList P ops Q (o :: rest) a w := by
  by_cases h0 : cs.length = 0
  · obtain rfl : cs = [] := List.eq_nil_of_length_eq_zero h0
    refine wpList_copy_nothing hgd d s dT sT ho elem hu hsz _ sp dLen dCap sLen sCap hd hs (by simpa using hn.symm) ?_
    refine h w ?_ (Nat.le_refl _)
    have e : splice cur off [] = cur := by simp [splice]
    rw [e]
    have : l.set i (Blk g cur.toArray t) = l := by
      apply List.ext_getElem?
      intro n
      rw [List.getElem?_set]
      split
      · rename_i hn'; subst hn'
        split
        · exact hi'.symm
        · rename_i hlt; rw [List.getElem?_eq_none (by omega)]
      · rfl
    rw [this]; exact H
  · obtain ⟨ad, rfl, hsrc2⟩ := hsrc (by omega)
    refine wpList_copy_own hgd d s dT sT ho elem hu hsz g off dLen dCap ad sLen sCap hd hs cur.toArray t (H.blk i hi') cs hn hsrc2 (by simpa using hfit) h1 ?_
    exact h _ (H.setRow i hi' _) (by simp)
end

/-- A slice literal of one element. -/
theorem list_one {P : Program} {w : World} {ops : Array Oper} {rest : List Oper} {o : Oper} {a : Act} {Q : Exit → Act → World → Prop} (hgd : o.guard = none) (t : TypeId) (x : Operand) (ho : o.op = .buildSlice t 1 #[(0, x)])
    {e : TypeId} {z : Value} {size bytes : Nat} (ht : P.underlying t = some (.slice e)) (hinfo : (P.info? e).map (fun i => (i.zero, i.size, i.bytes)) = some (some z, size, bytes)) (hzs : z.cells.size = size ∧ 0 < size ∧ size ≤ 65536)
    {v : Value} (hx : a.eval x = v) (hv : v.cells.size = size)
    (h : wpList P ops Q rest (a.put o.dst (.slice (some ⟨w.heap.size, 0, none⟩) 1 1)) (w.alloc (.cells v.cells e))) : wpList P ops Q (o :: rest) a w := by
  obtain ⟨i, hi, hz, hs, hb⟩ := info_parts hinfo
  refine wpList_buildSlice hgd t e 1 _ ho v.cells i z ht hi hz (by rw [hs]; omega) (by rw [hs]; omega) ?_ h
  simp only [List.map_toArray, List.map_cons, List.map_nil, hx]
  rw [fill_one _ 0 0 _ _ _ (by simp [hs, hv]) (by simp [hs, hv])]
  simp only [Instr.fill, hs]
  congr 1
  apply Array.ext_getElem?
  intro k
  simp only [splice, List.take_zero, List.nil_append, Nat.zero_add]
  rw [List.drop_of_length_le (by simp [hv]), List.append_nil, Array.toArray_toList]

/-- What a value that owns a row looks like. -/
theorem own_shape {w : World} {base : Nat} {e : TypeId} {size : Nat} {v : Value} {n : Nat} {xs : List Value} (h : w.ownsRow base e size v n xs) :
    (v = .slice none 0 0 ∧ n = 0) ∨ ∃ g cap, v = .slice (some ⟨g, 0, none⟩) n cap ∧ n ≤ cap ∧ g < w.heap.size := by
  rcases h.2 with a | ⟨g, cap, cur, hv, _, hg, hn, _⟩
  · exact .inl a
  · exact .inr ⟨g, cap, hv, hn, blk_lt hg⟩
theorem own_cell {w : World} {base : Nat} {e : TypeId} {size : Nat} {g n cap : Nat} {xs : List Value} (h : w.ownsRow base e size (.slice (some ⟨g, 0, none⟩) n cap) n xs) {j : Nat} {u : Value} (hj : xs[j]? = some u) :
    w.cell? ⟨g, j, none⟩ = some u := by
  have := h.cells (g := g) rfl j u hj
  rwa [Addr.add_mid, Nat.zero_add] at this
theorem own_free {w : World} {base : Nat} {e : TypeId} {size : Nat} {g n cap : Nat} {xs : List Value} (h : w.ownsRow base e size (.slice (some ⟨g, 0, none⟩) n cap) n xs) (j : Nat) : w.frozen? ⟨g, j, none⟩ = false := by
  rcases h.2 with ⟨a, _⟩ | ⟨g', cap', cur, hv, _, hg, _⟩
  · cases a
  · simp only [Value.slice.injEq, Option.some.injEq, Addr.mk.injEq] at hv
    obtain ⟨⟨rfl, _⟩, _⟩ := hv
    exact free_blk hg j
/-- The cells of one element of a row of lists. -/
theorem own_at {w : World} {base : Nat} {e : TypeId} {size k : Nat} {g n cap : Nat} {ls : List (List Value)} (h : w.ownsRow base e size (.slice (some ⟨g, 0, none⟩) n cap) n ls.flatten) (hk : ∀ x ∈ ls, x.length = k) {i : Nat} {x : List Value} (hi : ls[i]? = some x) :
    cellsAt w g (i * k) k = x ∧ hasCells w g (i * k) k = true := by
  have hx := hk x (List.mem_of_getElem? hi)
  refine cellsAt_of_range (fun j u hj => ?_) hx
  have hjl : j < k := by rw [← hx]; exact (List.getElem?_eq_some_iff.1 hj).1
  exact own_cell h ((flat_get hk hi hjl).trans hj)
theorem blk_at {w : World} {g k : Nat} {t : TypeId} {fr : Nat × Nat} {ls : List (List Value)} (h : w.heap[g]? = some (.cells ls.flatten.toArray t fr)) (hk : ∀ x ∈ ls, x.length = k) {i : Nat} {x : List Value} (hi : ls[i]? = some x) :
    cellsAt w g (i * k) k = x ∧ hasCells w g (i * k) k = true := by
  have hx := hk x (List.mem_of_getElem? hi)
  refine cellsAt_of_range (fun j u hj => ?_) hx
  have hjl : j < k := by rw [← hx]; exact (List.getElem?_eq_some_iff.1 hj).1
  rw [cell_blk h]
  simpa using (flat_get hk hi hjl).trans hj
theorem blk_whole {w : World} {g : Nat} {t : TypeId} {fr : Nat × Nat} {cs : List Value} (h : w.heap[g]? = some (.cells cs.toArray t fr)) {n : Nat} (hn : cs.length = n) : cellsAt w g 0 n = cs ∧ hasCells w g 0 n = true :=
  cellsAt_of_range (fun j u hj => by rw [cell_blk h]; simpa using hj) hn
theorem blk_part {w : World} {g : Nat} {t : TypeId} {fr : Nat × Nat} {a cs : List Value} (h : w.heap[g]? = some (.cells (a ++ cs).toArray t fr)) {m n : Nat} (hm : a.length = m) (hn : cs.length = n) : cellsAt w g m n = cs ∧ hasCells w g m n = true :=
  cellsAt_of_range (fun j u hj => by rw [cell_blk h]; subst hm; rw [List.getElem?_toArray, List.getElem?_append_right (by omega)]; simpa using hj) hn

/-- How many cells a block has that may be written. -/
def rowSize (w : World) (b : Nat) : Nat := match w.heap[b]? with | some (.cells cs _ (0, 0)) => cs.size | _ => 0
theorem rowSize_of {w : World} {b : Nat} {cs : Array Value} {t : TypeId} (h : w.heap[b]? = some (.cells cs t (0, 0))) : rowSize w b = cs.size := by unfold rowSize; rw [h]; rfl
@[go_sem] theorem rowSize_drew (w : World) (b : Nat) : rowSize w.drew b = rowSize w b := rfl
@[go_sem] theorem rowSize_alloc_at (w : World) (c : Array Value) (t : TypeId) (b : Nat) (hb : b = w.heap.size) : rowSize (w.alloc (.cells c t)) b = c.size := by subst hb; exact rowSize_of (heap_alloc_new _ _)
@[go_sem] theorem rowSize_alloc_past (w : World) (o : Obj) (b : Nat) (hb : b < w.heap.size) : rowSize (w.alloc o) b = rowSize w b := by unfold rowSize; rw [heap_alloc_old _ _ hb]
@[go_sem] theorem setRow_alloc_at (w : World) (c c' : Array Value) (t : TypeId) (b : Nat) (hb : b = w.heap.size) : (w.alloc (.cells c t)).setRow b c' = w.alloc (.cells c' t) := by
  subst hb
  simp only [World.setRow, World.alloc]
  congr 1
  apply Array.ext_getElem?
  intro i
  rw [Array.getElem?_modify]
  by_cases h : w.heap.size = i
  · subst h
    simp
  · have h' : ¬ i = w.heap.size := fun e => h e.symm
    simp [h, h', Array.getElem?_push]
@[go_sem] theorem setRow_drew (w : World) (c' : Array Value) (b : Nat) : w.drew.setRow b c' = (w.setRow b c').drew := rfl
def allOne (cs : Array Value) : Bool := cs.all (·.oneCell')
def isAggV : Value → Bool | .agg _ => true | _ => false
@[go_sem] theorem isAggV_lit (cs : Array Value) : isAggV (.agg cs) = true := rfl
theorem run_store_at {P : Program} {w : World} {a : Act} {dst : Option Tmp} {ty' : TypeId} {pos : String} {after : Array Edge} {g : Option (Nat × Bool)} {t : TypeId} {x y : Operand} {n : Nat}
    (hi : (P.info? t).map (·.size) = some n) (hn : 0 < n) (hp : plainPtr (a.eval x) = true) (ho : placeOf (a.eval x) = 0) (hr : rowSize w (blockOf (a.eval x)) = n) (hv : isAggV (a.eval y) = true) (hs : (aggOf (a.eval y)).size = n) (h1 : allOne (aggOf (a.eval y)) = true) :
    (execOp a.eval ⟨dst, .store t x y, ty', pos, after, g⟩).run P w = .ok .skip (w.setRow (blockOf (a.eval x)) (aggOf (a.eval y))) := by
  cases hx : a.eval x with
  | pointer q =>
    cases q with
    | none => rw [hx] at hp; cases hp
    | some ad =>
      obtain ⟨b, o, sp⟩ := ad
      rw [hx] at hp hr ho
      obtain rfl : sp = none := by simpa [plainPtr] using hp
      obtain rfl : o = 0 := ho
      cases hy : a.eval y with
      | agg cs =>
        rw [hy] at hs h1
        change cs.size = n at hs
        change rowSize w b = n at hr
        unfold rowSize at hr
        split at hr
        · rename_i c2 t2 hb
          unfold execOp
          simp only [hx, hy, Instr.storeAt, Instr.sureAddr, Sem.run_bind, Sem.run_pure, Result.andThen_ok, run_storeVar_row w b t2 t c2 cs hb (by rw [hs]; exact hi) (by omega) h1]
          rfl
        · omega
      | _ => rw [hy] at hv; cases hv
  | _ => rw [hx] at hp; cases hp

section
variable {P : Program} {S : Nat → Prop} {w0 w : World} {l : List SP}
/-- A whole variable is stored into a block of its own, as an operation of a plain list. -/
theorem St.list_store (H : St S w0 w l) (i : Nat) {g : Nat} {old : Array Value} {t : TypeId} (hi' : l[i]? = some (Blk g old t))
    {ops : Array Oper} {rest : List Oper} {o : Oper} {a : Act} {Q : Exit → Act → World → Prop} (hgd : o.guard = none) (ty : TypeId) (x y : Operand) (ho : o.op = .store ty x y)
    (cells : Array Value) (hx : a.eval x = .pointer (some ⟨g, 0, none⟩)) (hy : a.eval y = .agg cells) (hi : (P.info? ty).map (·.size) = some cells.size) (hold : old.size = cells.size) (h1 : ∀ u ∈ cells.toList, u.oneCell' = true)
    (h : ∀ w', St S w0 w' (l.set i (Blk g cells t)) → w'.heap.size = w.heap.size → wpList P ops Q rest (a.put o.dst undef) w') : wpList P ops Q (o :: rest) a w :=
  wpList_store_row hgd ty x y ho g cells hx hy t old (H.blk i hi') hi hold (Array.all_eq_true_iff_forall_mem.2 (fun v hv => h1 v (by simpa using hv))) (h _ (H.setRow i hi' cells) (by simp))
end

end Go.Proofs.Ytoffcoegghigoaa
