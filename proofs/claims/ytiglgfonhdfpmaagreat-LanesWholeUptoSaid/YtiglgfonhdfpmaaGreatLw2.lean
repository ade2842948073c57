import Derived.Test.YtiglgfonhdfpmaaGreatLw1
import Derived.Laws.CopyOwn
import Derived.Deep.MidRow
import Derived.Great.BuildSlice
import Derived.StillTailTactics
import Derived.Laws.Cover3
import Derived.Laws.OwnMore
import Derived.WideShapes
import Derived.Laws.BytesArg
import Derived.Deep.Upon
import Derived.Still
import Derived.StillTail
import Derived.WalkKit
import Derived.Deep.Cut
import Derived.Deep.CutBlock
import Derived.Shelf.Small.Strs
import Derived.Lib.Index
import Derived.Lib.SliceRun
/- Queries, and what is known of a window's values, as plain data: which are right, one value, two joined, what comes out. Plain laws, no program in sight. -/
set_option linter.unusedVariables false
set_option linter.unusedSimpArgs false
namespace Go.Proofs.YtiglgfonhdfpmaaGreat

structure Qry where
  kind : Int
  size : Int
  slide : Int
  late : Int
  agg : Int
  k : Int
deriving DecidableEq
def Qry.slides (q : Qry) : Bool := if q.kind = 2 then decide (1 ≤ q.slide) && decide (q.slide ≤ q.size) && decide (q.size ≤ 16 * q.slide) else decide (q.slide = 0)
def Qry.kB (q : Qry) : Bool := if q.agg = 6 then decide (1 ≤ q.k) && decide (q.k ≤ 8) else decide (q.k = 0)
def Qry.right (q : Qry) : Bool :=
  decide (1 ≤ q.kind ∧ q.kind ≤ 3) && decide (1 ≤ q.size ∧ q.size ≤ 1073741824) && q.slides && decide (0 ≤ q.late ∧ q.late ≤ 1073741824) && decide (1 ≤ q.agg ∧ q.agg ≤ 7) && q.kB

/-- What is known of values: how many, one number, the top ones, two parts. -/
structure Ag where
  n : Int
  a : Int
  top : List Int
  x : Int
  y : Int
deriving DecidableEq
def Ag.zero : Ag := ⟨0, 0, [], 0, 0⟩
def valB (v : Int) : Bool := decide (-1099511627776 ≤ v) && decide (v ≤ 1099511627776)
def fallB : List Int → Bool
  | [] => true
  | [v] => valB v
  | v :: w :: r => valB v && decide (w ≤ v) && fallB (w :: r)
def numB (q : Qry) (a : Int) : Bool := if q.agg = 2 ∨ q.agg = 5 then decide (-4398046511104 ≤ a) && decide (a ≤ 4398046511104) else if q.agg = 3 ∨ q.agg = 4 then valB a else decide (a = 0)
def topB (q : Qry) (n : Int) (l : List Int) : Bool := if q.agg = 6 then decide ((l.length : Int) = min n q.k) && fallB l else decide (l = [])
def partB (x : Int) : Bool := decide (-1073741824 ≤ x) && decide (x ≤ 1073741824)
def Ag.right (q : Qry) (g : Ag) : Bool :=
  q.right && decide (0 ≤ g.n) && decide (g.n ≤ 1073741824) && numB q g.a && topB q g.n g.top && (decide (q.agg = 7) || decide (g.x = 0 ∧ g.y = 0)) && partB g.x && partB g.y && (decide (0 < g.n) || decide (g.a = 0 ∧ g.x = 0 ∧ g.y = 0))
/-- Turned by quarters. -/
def turnX (v : Int) : Int := if v % 4 = 0 then 1 else if v % 4 = 2 then -1 else 0
def turnY (v : Int) : Int := if v % 4 = 1 then 1 else if v % 4 = 3 then -1 else 0
def singleM (q : Qry) (v : Int) : Ag :=
  if 2 ≤ q.agg ∧ q.agg ≤ 5 then ⟨1, v, [], 0, 0⟩ else if q.agg = 6 then ⟨1, 0, [v], 0, 0⟩ else if q.agg = 7 then ⟨1, 0, [], turnX v, turnY v⟩ else ⟨1, 0, [], 0, 0⟩
def joinedM (q : Qry) (a b : Int) : Int := if q.agg = 3 then min a b else if q.agg = 4 then max a b else a + b
/-- A value laid into a falling list. -/
def insD (v : Int) : List Int → List Int
  | [] => [v]
  | x :: r => if x < v then v :: x :: r else x :: insD v r
def sortD : List Int → List Int
  | [] => []
  | v :: r => insD v (sortD r)
def topM (q : Qry) (a b : List Int) : List Int := if q.agg = 6 then (sortD (a ++ b)).take q.k.toNat else []
def sumM (q : Qry) (a b : Ag) : Ag := ⟨a.n + b.n, joinedM q a.a b.a, topM q a.top b.top, a.x + b.x, a.y + b.y⟩
/-- Two joined; none: a number runs over. -/
def mergeM (q : Qry) (a b : Ag) : Option Ag := if a.n = 0 then some b else if b.n = 0 then some a else if (sumM q a b).right q = true then some (sumM q a b) else none
def floorM (a n : Int) : Int := a / n
def valueM (q : Qry) (g : Ag) : List Int :=
  if g.n = 0 then [] else if q.agg = 1 then [g.n] else if q.agg = 5 then [floorM g.a g.n] else if q.agg = 6 then g.top else if q.agg = 7 then [g.x, g.y] else [g.a]

theorem insD_len (v : Int) : ∀ l, (insD v l).length = l.length + 1
  | [] => rfl
  | x :: r => by
    unfold insD
    split
    · simp
    · simp [insD_len v r]
theorem sortD_len : ∀ l, (sortD l).length = l.length
  | [] => rfl
  | v :: r => by simp [sortD, insD_len, sortD_len r]
theorem insD_mem (v : Int) : ∀ l (x : Int), x ∈ insD v l ↔ x = v ∨ x ∈ l
  | [], x => by simp [insD]
  | y :: r, x => by
    unfold insD
    split
    · simp
    · simp only [List.mem_cons, insD_mem v r x]
      constructor
      · rintro (h | h | h)
        · exact .inr (.inl h)
        · exact .inl h
        · exact .inr (.inr h)
      · rintro (h | h | h)
        · exact .inr (.inl h)
        · exact .inl h
        · exact .inr (.inr h)
theorem sortD_mem : ∀ l (x : Int), x ∈ sortD l ↔ x ∈ l
  | [], x => by simp [sortD]
  | v :: r, x => by simp [sortD, insD_mem, sortD_mem r]
/-- A falling list. -/
def Fall (l : List Int) : Prop := l.Pairwise fun a b => b ≤ a
theorem insD_fall (v : Int) : ∀ {l}, Fall l → Fall (insD v l)
  | [], _ => by unfold insD Fall; simp
  | x :: r, h => by
    unfold insD
    have h1 := List.pairwise_cons.1 h
    split
    · rename_i hx
      refine List.pairwise_cons.2 ⟨fun y hy => ?_, h⟩
      rcases List.mem_cons.1 hy with rfl | hy
      · omega
      · have := h1.1 y hy; omega
    · rename_i hx
      refine List.pairwise_cons.2 ⟨fun y hy => ?_, insD_fall v h1.2⟩
      rcases (insD_mem v r y).1 hy with rfl | hy
      · omega
      · exact h1.1 y hy
theorem sortD_fall : ∀ l, Fall (sortD l)
  | [] => List.Pairwise.nil
  | v :: r => insD_fall v (sortD_fall r)
theorem insD_perm (v : Int) : ∀ l, (insD v l).Perm (v :: l)
  | [] => List.Perm.refl _
  | x :: r => by
    unfold insD
    split
    · exact List.Perm.refl _
    · exact ((insD_perm v r).cons x).trans (List.Perm.swap v x r)
theorem sortD_perm : ∀ l, (sortD l).Perm l
  | [] => List.Perm.refl _
  | v :: r => (insD_perm v (sortD r)).trans ((sortD_perm r).cons v)
/-- Falling lists of the same numbers are one. -/
theorem fall_one : ∀ {l m : List Int}, Fall l → Fall m → l.Perm m → l = m
  | [], m, _, _, h => (List.nil_perm.1 h).symm
  | x :: l, [], _, _, h => absurd h.length_eq (by simp)
  | x :: l, y :: m, hl, hm, h => by
    have h1 := List.pairwise_cons.1 hl
    have h2 := List.pairwise_cons.1 hm
    have a : y ≤ x := by
      rcases List.mem_cons.1 (h.symm.subset (List.mem_cons_self (a := y) (l := m))) with h | h
      · omega
      · exact h1.1 y h
    have b : x ≤ y := by
      rcases List.mem_cons.1 (h.subset (List.mem_cons_self (a := x) (l := l))) with h | h
      · omega
      · exact h2.1 x h
    obtain rfl : x = y := by omega
    rw [fall_one h1.2 h2.2 (List.Perm.cons_inv h)]
theorem sortD_is {l m : List Int} (h : Fall m) (hp : m.Perm l) : sortD l = m := fall_one (sortD_fall l) h ((sortD_perm l).trans hp.symm)
theorem fallB_iff : ∀ {l : List Int}, fallB l = true ↔ Fall l ∧ ∀ v ∈ l, valB v = true
  | [] => by simp [fallB, Fall]
  | [v] => by simp [fallB, Fall]
  | v :: w :: r => by
    have ih := fallB_iff (l := w :: r)
    simp only [fallB, Bool.and_eq_true, decide_eq_true_eq, ih]
    constructor
    · rintro ⟨⟨h1, h2⟩, h3, h4⟩
      refine ⟨List.pairwise_cons.2 ⟨fun y hy => ?_, h3⟩, fun y hy => ?_⟩
      · rcases List.mem_cons.1 hy with rfl | hy
        · exact h2
        · have := (List.pairwise_cons.1 h3).1 y hy; omega
      · rcases List.mem_cons.1 hy with rfl | hy
        · exact h1
        · exact h4 y hy
    · rintro ⟨h1, h2⟩
      have h3 := List.pairwise_cons.1 h1
      exact ⟨⟨h2 v (by simp), h3.1 w (by simp)⟩, h3.2, fun y hy => h2 y (by simp [hy])⟩

end Go.Proofs.YtiglgfonhdfpmaaGreat

/- What is known of values: laws. The document's way to the top ones; what is right stays right; quotients. Plain laws, no program in sight. -/
set_option linter.unusedVariables false
set_option linter.unusedSimpArgs false
namespace Go.Proofs.YtiglgfonhdfpmaaGreat

theorem valB_iff {v : Int} : valB v = true ↔ -1099511627776 ≤ v ∧ v ≤ 1099511627776 := by simp [valB]
theorem partB_iff {v : Int} : partB v = true ↔ -1073741824 ≤ v ∧ v ≤ 1073741824 := by simp [partB]
/-- What right means. -/
theorem Ag.right_iff {q : Qry} {g : Ag} : g.right q = true ↔ q.right = true ∧ 0 ≤ g.n ∧ g.n ≤ 1073741824 ∧ numB q g.a = true ∧ topB q g.n g.top = true ∧ (q.agg = 7 ∨ g.x = 0 ∧ g.y = 0) ∧ partB g.x = true ∧ partB g.y = true ∧ (0 < g.n ∨ g.a = 0 ∧ g.x = 0 ∧ g.y = 0) := by
  simp only [Ag.right, Bool.and_eq_true, Bool.or_eq_true, decide_eq_true_eq]
  constructor
  · rintro ⟨⟨⟨⟨⟨⟨⟨⟨h1, h2⟩, h3⟩, h4⟩, h5⟩, h6⟩, h7⟩, h8⟩, h9⟩
    exact ⟨h1, h2, h3, h4, h5, h6, h7, h8, h9⟩
  · rintro ⟨h1, h2, h3, h4, h5, h6, h7, h8, h9⟩
    exact ⟨⟨⟨⟨⟨⟨⟨⟨h1, h2⟩, h3⟩, h4⟩, h5⟩, h6⟩, h7⟩, h8⟩, h9⟩
theorem topB_iff {q : Qry} {n : Int} {l : List Int} : topB q n l = true ↔ (q.agg = 6 ∧ (l.length : Int) = min n q.k ∧ Fall l ∧ ∀ v ∈ l, valB v = true) ∨ (q.agg ≠ 6 ∧ l = []) := by
  unfold topB
  by_cases h : q.agg = 6
  · rw [if_pos h, Bool.and_eq_true, decide_eq_true_eq, fallB_iff]
    simp [h]
  · rw [if_neg h, decide_eq_true_eq]
    simp [h]
theorem zero_right {q : Qry} (h : q.right = true) : Ag.zero.right q = true := by
  have hq : q.kB = true := by
    unfold Qry.right at h
    simp only [Bool.and_eq_true] at h
    exact h.2
  refine Ag.right_iff.2 ⟨h, by simp [Ag.zero], by simp [Ag.zero], ?_, ?_, .inr ⟨rfl, rfl⟩, by decide, by decide, .inr ⟨rfl, rfl, rfl⟩⟩
  · unfold numB Ag.zero
    simp [valB]
  · refine topB_iff.2 ?_
    by_cases h6 : q.agg = 6
    · refine .inl ⟨h6, ?_, by simp [Ag.zero, Fall], by simp [Ag.zero]⟩
      unfold Qry.kB at hq
      rw [if_pos h6] at hq
      simp only [Bool.and_eq_true, decide_eq_true_eq] at hq
      simp only [Ag.zero, List.length_nil]
      omega
    · exact .inr ⟨h6, rfl⟩
theorem single_right {q : Qry} {v : Int} (h : q.right = true) (hv : valB v = true) : (singleM q v).right q = true := by
  have hq : q.kB = true := by
    unfold Qry.right at h
    simp only [Bool.and_eq_true] at h
    exact h.2
  have hv' := valB_iff.1 hv
  have hx : -1 ≤ turnX v ∧ turnX v ≤ 1 := by unfold turnX; split <;> try split
                                             all_goals omega
  have hy : -1 ≤ turnY v ∧ turnY v ≤ 1 := by unfold turnY; split <;> try split
                                             all_goals omega
  unfold singleM
  split
  · rename_i h1
    refine Ag.right_iff.2 ⟨h, by simp, by simp, ?_, topB_iff.2 (.inr ⟨by omega, rfl⟩), .inr ⟨rfl, rfl⟩, (by decide : partB 0 = true), (by decide : partB 0 = true), .inl (by simp)⟩
    unfold numB
    split
    · simp; omega
    · rw [if_pos (by omega)]; exact hv
  · split
    · rename_i h1 h6
      have hk : 1 ≤ q.k ∧ q.k ≤ 8 := by
        unfold Qry.kB at hq
        rw [if_pos h6] at hq
        simpa using hq
      refine Ag.right_iff.2 ⟨h, by simp, by simp, ?_, topB_iff.2 (.inl ⟨h6, ?_, by simp [Fall], by simpa using hv⟩), .inr ⟨rfl, rfl⟩, (by decide : partB 0 = true), (by decide : partB 0 = true), .inl (by simp)⟩
      · unfold numB
        rw [if_neg (by omega), if_neg (by omega)]
        simp
      · simp only [List.length_cons, List.length_nil]
        omega
    · split
      · rename_i h1 h6 h7
        refine Ag.right_iff.2 ⟨h, by simp, by simp, ?_, topB_iff.2 (.inr ⟨h6, rfl⟩), .inl h7, partB_iff.2 (by simp only; omega), partB_iff.2 (by simp only; omega), .inl (by simp)⟩
        unfold numB
        rw [if_neg (by omega), if_neg (by omega)]
        simp
      · rename_i h1 h6 h7
        refine Ag.right_iff.2 ⟨h, by simp, by simp, ?_, topB_iff.2 (.inr ⟨h6, rfl⟩), .inr ⟨rfl, rfl⟩, (by decide : partB 0 = true), (by decide : partB 0 = true), .inl (by simp)⟩
        unfold numB
        rw [if_neg (by omega), if_neg (by omega)]
        simp
theorem merge_right {q : Qry} {a b g : Ag} (ha : a.right q = true) (hb : b.right q = true) (h : mergeM q a b = some g) : g.right q = true := by
  unfold mergeM at h
  split at h
  · obtain rfl := Option.some.inj h; exact hb
  · split at h
    · obtain rfl := Option.some.inj h; exact ha
    · split at h
      · obtain rfl := Option.some.inj h; assumption
      · cases h

end Go.Proofs.YtiglgfonhdfpmaaGreat

/- Arrays by value in a walk: built, loaded from the middle of a block, copied. Laws over any program. No condition of its own. -/
set_option linter.unusedVariables false
set_option linter.unusedSimpArgs false
namespace Go.Proofs.YtiglgfonhdfpmaaGreat
open Go.RowKit

section
variable {P : Program} {ops : Array Oper} {w : World}
/-! What an operation comes to, as an equation that the walk takes for a rule. -/
/-- Cells of a block from a place on, as a list; and whether they are there. -/
def cellsAt (w : World) (b o n : Nat) : List Value := (List.range n).map fun j => (w.cell? ⟨b, o + j, none⟩).getD undef
def hasCells (w : World) (b o n : Nat) : Bool := (List.range n).all fun j => (w.cell? ⟨b, o + j, none⟩).isSome
def blockOf : Value → Nat | .pointer (some a) => a.block | _ => 0
def placeOf : Value → Nat | .pointer (some a) => a.off | _ => 0
def plainPtr : Value → Bool | .pointer (some a) => a.spot.isNone | _ => false
@[go_sem] theorem cellsAt_drew (b o n : Nat) : cellsAt w.drew b o n = cellsAt w b o n := rfl
@[go_sem] theorem hasCells_drew (b o n : Nat) : hasCells w.drew b o n = hasCells w b o n := rfl
@[go_sem] theorem blockOf_lit (b o : Nat) : blockOf (.pointer (some ⟨b, o, none⟩)) = b := rfl
@[go_sem] theorem placeOf_lit (b o : Nat) : placeOf (.pointer (some ⟨b, o, none⟩)) = o := rfl
@[go_sem] theorem plainPtr_lit (b o : Nat) : plainPtr (.pointer (some ⟨b, o, none⟩)) = true := rfl
def aggOf : Value → Array Value | .agg cs => cs | v => #[v]
@[go_sem] theorem aggOf_lit (cs : Array Value) : aggOf (.agg cs) = cs := rfl
end

section
variable {P : Program} {S : Nat → Prop} {w0 w : World} {l : List SP}
/-- A row whose cells are laid anew. -/
theorem St.setRow (h : St S w0 w l) (i : Nat) {b : Nat} {cs : Array Value} {t : TypeId} (hi : l[i]? = some (Blk b cs t)) (cs' : Array Value) : St S w0 (w.setRow b cs') (l.set i (Blk b cs' t)) := by
  obtain ⟨S1, h1, h2⟩ := h.turn i hi
  refine h2 (S1' := S1) ⟨rfl, rfl, rfl, by simp, fun k _ hk => setRow_other w b k cs' (fun e => hk ((h1.2 k).2 e))⟩ ⟨setRow_heap w b _ cs' t _ h1.1, h1.2⟩ (fun _ a => .inl a)

end

/-- What a value that owns a row looks like. -/
theorem own_shape {w : World} {base : Nat} {e : TypeId} {size : Nat} {v : Value} {n : Nat} {xs : List Value} (h : w.ownsRow base e size v n xs) :
    (v = .slice none 0 0 ∧ n = 0) ∨ ∃ g cap, v = .slice (some ⟨g, 0, none⟩) n cap ∧ n ≤ cap ∧ g < w.heap.size := by
  rcases h.2 with a | ⟨g, cap, cur, hv, _, hg, hn, _⟩
  · exact .inl a
  · exact .inr ⟨g, cap, hv, hn, blk_lt hg⟩
theorem own_cell {w : World} {base : Nat} {e : TypeId} {size : Nat} {g n cap : Nat} {xs : List Value} (h : w.ownsRow base e size (.slice (some ⟨g, 0, none⟩) n cap) n xs) {j : Nat} {u : Value} (hj : xs[j]? = some u) :
    w.cell? ⟨g, j, none⟩ = some u := by
  have := h.cells (g := g) rfl j u hj
  rwa [Addr.add_mid, Nat.zero_add] at this
/-- How many cells a block has that may be written. -/
def rowSize (w : World) (b : Nat) : Nat := match w.heap[b]? with | some (.cells cs _ (0, 0)) => cs.size | _ => 0
theorem rowSize_of {w : World} {b : Nat} {cs : Array Value} {t : TypeId} (h : w.heap[b]? = some (.cells cs t (0, 0))) : rowSize w b = cs.size := by unfold rowSize; rw [h]; rfl
@[go_sem] theorem rowSize_drew (w : World) (b : Nat) : rowSize w.drew b = rowSize w b := rfl
@[go_sem] theorem rowSize_alloc_at (w : World) (c : Array Value) (t : TypeId) (b : Nat) (hb : b = w.heap.size) : rowSize (w.alloc (.cells c t)) b = c.size := by subst hb; exact rowSize_of (heap_alloc_new _ _)
@[go_sem] theorem rowSize_alloc_past (w : World) (o : Obj) (b : Nat) (hb : b < w.heap.size) : rowSize (w.alloc o) b = rowSize w b := by unfold rowSize; rw [heap_alloc_old _ _ hb]
@[go_sem] theorem setRow_alloc_at (w : World) (c c' : Array Value) (t : TypeId) (b : Nat) (hb : b = w.heap.size) : (w.alloc (.cells c t)).setRow b c' = w.alloc (.cells c' t) := by
  subst hb
  simp only [World.setRow, World.alloc]
  congr 1
  apply Array.ext_getElem?
  intro i
  rw [Array.getElem?_modify]
  by_cases h : w.heap.size = i
  · subst h
    simp
  · have h' : ¬ i = w.heap.size := fun e => h e.symm
    simp [h, h', Array.getElem?_push]
@[go_sem] theorem setRow_drew (w : World) (c' : Array Value) (b : Nat) : w.drew.setRow b c' = (w.setRow b c').drew := rfl
def allOne (cs : Array Value) : Bool := cs.all (·.oneCell')
def isAggV : Value → Bool | .agg _ => true | _ => false
@[go_sem] theorem isAggV_lit (cs : Array Value) : isAggV (.agg cs) = true := rfl
theorem run_store_at {P : Program} {w : World} {a : Act} {dst : Option Tmp} {ty' : TypeId} {pos : String} {after : Array Edge} {g : Option (Nat × Bool)} {t : TypeId} {x y : Operand} {n : Nat}
    (hi : (P.info? t).map (·.size) = some n) (hn : 0 < n) (hp : plainPtr (a.eval x) = true) (ho : placeOf (a.eval x) = 0) (hr : rowSize w (blockOf (a.eval x)) = n) (hv : isAggV (a.eval y) = true) (hs : (aggOf (a.eval y)).size = n) (h1 : allOne (aggOf (a.eval y)) = true) :
    (execOp a.eval ⟨dst, .store t x y, ty', pos, after, g⟩).run P w = .ok .skip (w.setRow (blockOf (a.eval x)) (aggOf (a.eval y))) := by
  cases hx : a.eval x with
  | pointer q =>
    cases q with
    | none => rw [hx] at hp; cases hp
    | some ad =>
      obtain ⟨b, o, sp⟩ := ad
      rw [hx] at hp hr ho
      obtain rfl : sp = none := by simpa [plainPtr] using hp
      obtain rfl : o = 0 := ho
      cases hy : a.eval y with
      | agg cs =>
        rw [hy] at hs h1
        change cs.size = n at hs
        change rowSize w b = n at hr
        unfold rowSize at hr
        split at hr
        · rename_i c2 t2 hb
          unfold execOp
          simp only [hx, hy, Instr.storeAt, Instr.sureAddr, Sem.run_bind, Sem.run_pure, Result.andThen_ok, run_storeVar_row w b t2 t c2 cs hb (by rw [hs]; exact hi) (by omega) h1]
          rfl
        · omega
      | _ => rw [hy] at hv; cases hv
  | _ => rw [hx] at hp; cases hp

section
variable {P : Program} {S : Nat → Prop} {w0 w : World} {l : List SP}
/-- A whole variable is stored into a block of its own, as an operation of a plain list. -/
theorem St.list_store (H : St S w0 w l) (i : Nat) {g : Nat} {old : Array Value} {t : TypeId} (hi' : l[i]? = some (Blk g old t))
    {ops : Array Oper} {rest : List Oper} {o : Oper} {a : Act} {Q : Exit → Act → World → Prop} (hgd : o.guard = none) (ty : TypeId) (x y : Operand) (ho : o.op = .store ty x y)
    (cells : Array Value) (hx : a.eval x = .pointer (some ⟨g, 0, none⟩)) (hy : a.eval y = .agg cells) (hi : (P.info? ty).map (·.size) = some cells.size) (hold : old.size = cells.size) (h1 : ∀ u ∈ cells.toList, u.oneCell' = true)
    (h : ∀ w', St S w0 w' (l.set i (Blk g cells t)) → w'.heap.size = w.heap.size → wpList P ops Q rest (a.put o.dst undef) w') : wpList P ops Q (o :: rest) a w :=
  wpList_store_row hgd ty x y ho g cells hx hy t old (H.blk i hi') hi hold (Array.all_eq_true_iff_forall_mem.2 (fun v hv => h1 v (by simpa using hv))) (h _ (H.setRow i hi' cells) (by simp))
end

end Go.Proofs.YtiglgfonhdfpmaaGreat

/- More laws of parts: an element of an owned row is laid anew; texts as cells. Plain laws, no program in sight. -/
set_option linter.unusedVariables false
set_option linter.unusedSimpArgs false
namespace Go.Proofs.YtiglgfonhdfpmaaGreat
open Go.RowKit

section
variable {S : Nat → Prop} {w0 w : World} {l : List SP}
end

def textV (l : List UInt8) : Value := .string ⟨l.toArray⟩
end Go.Proofs.YtiglgfonhdfpmaaGreat

/- Laws of reading, lending and calling that need no function of the program: bytes that can be read, texts of them, calls in the midst of a call. -/
set_option linter.unusedVariables false
set_option linter.unusedSimpArgs false
namespace Go.Proofs.YtiglgfonhdfpmaaGreat
open Go.RowKit

/-- A slice of bytes that can be read, and stays so while outside S nothing turns. -/
def BytesRO (S : Nat → Prop) (w : World) (v : Value) (l : List UInt8) : Prop :=
  ∃ ad cap, v = .slice ad l.length cap ∧ l.length ≤ cap ∧ (l ≠ [] → ∃ b o, ad = some ⟨b, o, none⟩ ∧ b < w.heap.size ∧ ¬ S b ∧ ∀ i (hi : i < l.length), w.cell? ⟨b, o + i, none⟩ = some (bv l[i]))
/-- A slice of bytes of the call's own. -/
def BytesAt (v : Value) (l : List UInt8) : SP where
  on w S := (l = [] ∧ v = .slice none 0 0 ∧ ∀ k, ¬ S k) ∨ ∃ g t, v = .slice (some ⟨g, 0, none⟩) l.length l.length ∧ w.heap[g]? = some (.cells (bvs l).toArray t (0, 0)) ∧ ∀ k, S k ↔ k = g
  loc w w' S h hs := by
    rcases h with h | ⟨g, t, h1, h2, h3⟩
    · exact .inl h
    · exact .inr ⟨g, t, h1, (hs g ((h3 g).2 rfl)).trans h2, h3⟩
  lt w S k h hk := by
    rcases h with ⟨_, _, h⟩ | ⟨g, t, h1, h2, h3⟩
    · exact absurd hk (h k)
    · obtain rfl := (h3 k).1 hk
      exact blk_lt h2
theorem BytesAt.nil {w0 w : World} {l : List SP} {S : Nat → Prop} (H : St S w0 w l) : St S w0 w (BytesAt (.slice none 0 0) [] :: l) :=
  ⟨H.kept, fun _ => False, .inl ⟨rfl, rfl, fun _ h => h⟩, fun _ h => h.elim, H.sep.mono (fun _ _ h => ⟨h, id⟩)⟩
theorem BytesAt.mk {w0 w : World} {l : List SP} {S : Nat → Prop} {g : Nat} {bs : List UInt8} {t : TypeId} (H : St S w0 w (Blk g (bvs bs).toArray t :: l)) : St S w0 w (BytesAt (.slice (some ⟨g, 0, none⟩) bs.length bs.length) bs :: l) := by
  obtain ⟨h, S1, h1, h2, h3⟩ := H
  exact ⟨h, S1, .inr ⟨g, t, rfl, h1.1, h1.2⟩, h2, h3⟩
theorem take_snoc' {α : Type} {l : List α} {k : Nat} {x : α} (h : l[k]? = some x) : l.take (k + 1) = l.take k ++ [x] := by
  obtain ⟨hlt, rfl⟩ := List.getElem?_eq_some_iff.1 h
  exact List.take_succ_eq_append_getElem hlt
theorem BytesAt.out {S : Nat → Prop} {w0 w : World} {rest : List SP} {v : Value} {bs : List UInt8} {n : Nat} (H : St S w0 w (BytesAt v bs :: rest)) (hn : bs.length = n) (h0 : 0 < n) :
    ∃ g t, v = .slice (some ⟨g, 0, none⟩) n n ∧ St S w0 w (Blk g (bvs bs).toArray t :: rest) := by
  obtain ⟨hk, S1, h1, h2, h3⟩ := H
  rcases h1 with ⟨rfl, _⟩ | ⟨g, t, e1, e2, e3⟩
  · simp at hn; omega
  · exact ⟨g, t, by rw [e1, hn], hk, S1, ⟨e2, e3⟩, h2, h3⟩
theorem row_form {w : World} {base : Nat} {e : TypeId} {size : Nat} {v : Value} {n N : Nat} {xs : List Value} (h : w.ownsRow base e size v n xs) (hn : n = N) (h0 : 0 < N) : ∃ g cap, v = .slice (some ⟨g, 0, none⟩) N cap := by
  subst hn
  rcases own_shape h with ⟨_, h⟩ | ⟨g, cap, h, _⟩
  · omega
  · exact ⟨g, cap, h⟩
/-- A call that leaves all that was there alone, in the midst of a call. -/
theorem St.callPast {S : Nat → Prop} {w w' : World} {L : List SP} {P : Program} {fid : Nat} {args : Array Value} {p : Ending → Prop} (hc : Calls P fid args w' fun e w2 => p e ∧ Below w'.heap.size w' w2) (H : St S w w' L) :
    Calls P fid args w' fun e w2 => p e ∧ St S w w2 L := hc.mono fun _ _ h => ⟨h.1, H.past h.2⟩
theorem St.callSame' {S : Nat → Prop} {w w' : World} {L : List SP} {P : Program} {fid : Nat} {args : Array Value} {p : Ending → Prop} (hc : Calls P fid args w' fun e w2 => p e ∧ w2 = w') (H : St S w w' L) :
    Calls P fid args w' fun e w2 => p e ∧ St S w w2 L := hc.mono fun _ _ h => ⟨h.1, h.2 ▸ H⟩
end Go.Proofs.YtiglgfonhdfpmaaGreat

/- append of any slice, empty or not, onto a row of the call's own. Laws over any program. -/
set_option linter.unusedVariables false
set_option linter.unusedSimpArgs false
namespace Go.Proofs.YtiglgfonhdfpmaaGreat
open Go.RowKit

theorem slice_form' {w : World} {base : Nat} {e : TypeId} {size : Nat} {v : Value} {n : Nat} {xs : List Value} (h : w.ownsRow base e size v n xs) : ∃ ao cap, v = .slice ao n cap ∧ n ≤ cap ∧ (n ≠ 0 → ∃ g, ao = some ⟨g, 0, none⟩) := by
  rcases own_shape h with ⟨h, h'⟩ | ⟨g, cap, h, h', _⟩
  · exact ⟨none, 0, by rw [h, h'], by omega, fun hn => absurd h' hn⟩
  · exact ⟨_, cap, h, h', fun _ => ⟨g, rfl⟩⟩

section
variable {P : Program} {S : Nat → Prop} {w0 w : World} {l : List SP}
theorem St.grown' (h : St S w0 w l) (i : Nat) {e : TypeId} {size : Nat} {v : Value} {n : Nat} {xs : List Value} (hi : l[i]? = some (Row e size v n xs)) {w' : World} {v' : Value} {n' : Nat} {xs' : List Value}
    (ho : w'.ownsRow 0 e size v' n' xs') (hg : w.grownBy w' v.ownBlock) (hat : v'.ownBlock = v.ownBlock ∨ v'.ownBlock = some w.heap.size) : St S w0 w' (l.set i (Row e size v' n' xs')) := by
  obtain ⟨S1, h1, h2⟩ := h.turn i hi
  refine h2 (S1' := fun k => v'.ownBlock = some k) ?_ ⟨ho, fun k => Iff.rfl⟩ ?_
  · exact (Kept.refl _ _).grown hg (fun k _ e => (h1.2 k).2 e)
  · intro k hk
    rcases hat with a | a
    · exact .inl ((h1.2 _).2 (a ▸ hk))
    · right; rw [a] at hk; have := Option.some.inj hk; omega
theorem src_none (w : World) {t e : TypeId} (ht : P.underlying t = some (.slice e)) (size c : Nat) : Src P size t (.slice none 0 c) 0 [] w :=
  ⟨.inl ⟨e, ht⟩, fun w' => by simp [Builtin.lenOf], by simp [Builtin.firstCells], by simp [Builtin.firstCells], by simp, by simp⟩
theorem St.run_append (H : St S w0 w l) (i : Nat) {e : TypeId} {size : Nat} {v : Value} {n : Nat} {xs : List Value} (hi : l[i]? = some (Row e size v n xs))
    {t ty : TypeId} {z : Value} {bytes : Nat} (ht : P.underlying t = some (.slice e))
    (hinfo : (P.info? e).map (fun i => (i.zero, i.size, i.bytes)) = some (some z, size, bytes)) (hzs : z.cells.size = size ∧ 0 < size ∧ 0 < bytes)
    {A : Option Addr} {c m : Nat} (news : List Value) (hl : news.length = m * size) (hA : A = none → m = 0) (hnews : ∀ ad, A = some ad → ∀ j u, news[j]? = some u → w.cell? (ad.add j) = some u) (h1 : ∀ u ∈ news, u.oneCell' = true)
    (hbytes : (n + m) * bytes ≤ 140737488355328) :
    ∃ v' w', (Builtin.append_ #[t, t] ty #[v, .slice A m c]).run P w = .ok v' w' ∧ St S w0 w' (l.set i (Row e size v' (n + m) (xs ++ news))) ∧ w.heap.size ≤ w'.heap.size := by
  obtain ⟨ti, hti, hz, hsz, hby⟩ := info_parts hinfo
  cases A with
  | none =>
    obtain rfl := hA rfl
    obtain rfl : news = [] := List.eq_nil_of_length_eq_zero (by simpa using hl)
    obtain ⟨ao, cap, rfl, hle⟩ : ∃ ao cap, v = .slice ao n cap ∧ n ≤ cap := by
      rcases own_shape (H.row i hi) with ⟨h, h'⟩ | ⟨g, cap, h, h', _⟩
      · exact ⟨none, 0, by rw [h, h'], by omega⟩
      · exact ⟨_, cap, h, h'⟩
    refine ⟨_, w, run_append_nothing w t t ty e ti ht hti ao n cap hle _ (src_none w ht _ c), ?_, Nat.le_refl _⟩
    rw [List.append_nil, Nat.add_zero]
    exact H.grown' i hi (H.row i hi) (World.grownBy.refl w _) (.inl rfl)
  | some ad =>
    obtain ⟨v', w', hr, h2, h3, _, h5⟩ := run_append_own_at (P := P) w 0 t ty e ti z size bytes ht hti hz hsz hby hzs.1 hzs.2.1 v n xs (H.row i hi) ad m c news hl (hnews ad rfl) h1
      (by have := Nat.le_mul_of_pos_right (n + m) hzs.2.2; unfold maxLen; omega) hbytes (Nat.zero_le _)
    exact ⟨v', w', hr, H.grown' i hi h2 h3 h5, h3.size⟩
/-- The same at a plain region's operation. -/
theorem St.list_add (H : St S w0 w l) (i : Nat) {e : TypeId} {size : Nat} {v : Value} {n : Nat} {xs : List Value} (hi : l[i]? = some (Row e size v n xs))
    {ops : Array Oper} {rest : List Oper} {o : Oper} {a : Act} {Q : Exit → Act → World → Prop} (hgd : o.guard = none) (s x : Operand) (t : TypeId)
    (ho : o.op = .call { callee := .builtin .append, args := #[s, x], argTypes := #[t, t] }) {z : Value} {bytes : Nat} (ht : P.underlying t = some (.slice e))
    (hinfo : (P.info? e).map (fun i => (i.zero, i.size, i.bytes)) = some (some z, size, bytes)) (hzs : z.cells.size = size ∧ 0 < size ∧ 0 < bytes)
    (hs : a.eval s = v) {A : Option Addr} {c m : Nat} (news : List Value) (hx : a.eval x = .slice A m c) (hl : news.length = m * size) (hA : A = none → m = 0) (hnews : ∀ ad, A = some ad → ∀ j u, news[j]? = some u → w.cell? (ad.add j) = some u) (h1 : ∀ u ∈ news, u.oneCell' = true)
    (hbytes : (n + m) * bytes ≤ 140737488355328)
    (h : ∀ v' w', St S w0 w' (l.set i (Row e size v' (n + m) (xs ++ news))) → w.heap.size ≤ w'.heap.size → wpList P ops Q rest (a.put o.dst v') w') :
    wpList P ops Q (o :: rest) a w := by
  obtain ⟨v', w', hr, h2, h3⟩ := H.run_append i hi (ty := o.type) (c := c) ht hinfo hzs news hl hA hnews h1 hbytes
  refine wpList_plain hgd fun _ hK => ?_
  unfold Oper.wp execOp
  simp only [ho, resolve, invoke, builtin, Sem.run_bind, Sem.run_pure, Result.andThen_ok, List.map_toArray, List.map_cons, List.map_nil, hs, hx, hr]
  exact hK _ _ (h v' w' h2 h3)
end

end Go.Proofs.YtiglgfonhdfpmaaGreat

/- A region that draws its order: where each operation yields one value in every world of which I holds, and leaves I be, the order of the text tells all: calls that make memory, loads of what I knows, guards that say no. Laws over any program. -/
set_option linter.unusedVariables false
set_option linter.unusedSimpArgs false
namespace Go.Proofs.YtiglgfonhdfpmaaGreat
open Go.RowKit

section
variable {P : Program} {ops : Array Oper} {md : Region.Mode} {I : World → Prop}

/-- The operation came to this value, and I holds. -/
def CameTo (P : Program) (I : World → Prop) (v : Value) : Result Next → Prop
  | .ok (.value u) w' => u = v ∧ I w'
  | .ok .skip w' => v = undef ∧ I w'
  | .ok (.enter f args) w' => Calls P f args w' fun e w'' => e = .returned v ∧ I w''
  | _ => False
theorem cameTo_value (u v : Value) (w' : World) : CameTo P I v (.ok (.value u) w') = (u = v ∧ I w') := rfl
theorem cameTo_skip (v : Value) (w' : World) : CameTo P I v (.ok .skip w') = (v = undef ∧ I w') := rfl
theorem cameTo_enter (v : Value) (f : Nat) (args : Array Value) (w' : World) : CameTo P I v (.ok (.enter f args) w') = Calls P f args w' (fun e w'' => e = .returned v ∧ I w'') := rfl

/-- In every world of I this operation comes to v. -/
def ComesTo (P : Program) (ops : Array Oper) (I : World → Prop) (o : Oper) (v : Value) (a : Act) : Prop :=
  (Region.wanted o (yielded ops a.tmps) = true ∧ ∀ w, I w → CameTo P I v ((execOp a.eval o).run P w)) ∨ (Region.wanted o (yielded ops a.tmps) = false ∧ v = undef)
theorem ComesTo.same {o : Oper} {v : Value} {a a' : Act} (h : ComesTo P ops I o v a) (he : execOp a'.eval o = execOp a.eval o) (hw : Region.wanted o (yielded ops a'.tmps) = Region.wanted o (yielded ops a.tmps)) : ComesTo P ops I o v a' := by
  unfold ComesTo at *
  rw [he, hw]
  exact h
theorem ComesTo.op {i : Nat} {o : Oper} {v : Value} {a : Act} {w : World} {K : Act → World → Prop} {Q : Exit → Act → World → Prop} (hi : ops[i]? = some o) (h : ComesTo P ops I o v a) (hw : I w) (hK : ∀ w, I w → K (a.put o.dst v) w) : wpOp P ops Q i K a w := by
  unfold wpOp
  simp only [hi]
  rcases h with ⟨h1, h2⟩ | ⟨h1, rfl⟩
  · rw [if_pos h1]
    left
    have h3 := h2 w hw
    unfold Oper.wp
    generalize (execOp a.eval o).run P w = r at h3 ⊢
    cases r with
    | ok n w' =>
      cases n <;> simp only [CameTo] at h3 <;> simp only [Oper.upon]
      case value u => obtain ⟨rfl, h4⟩ := h3; exact hK _ h4
      case skip => obtain ⟨rfl, h4⟩ := h3; exact hK _ h4
      case enter f args => exact h3.mono fun e w'' ⟨he, hi⟩ => by subst he; exact hK _ hi
    | halt x w' => simp only [CameTo] at h3
  · rw [if_neg (by simp [h1])]
    exact hK w hw

/-- Whatever order: the end. -/
def AnyTo (P : Program) (md : Region.Mode) (ops : Array Oper) (I : World → Prop) (Q : Act → Prop) : Nat → Array Bool → Act → Prop
  | 0, listed, a => Region.ready md ops listed = [] ∧ Q a
  | n + 1, listed, a => (Region.ready md ops listed = [] → Q a) ∧
    ∀ i ∈ Region.ready md ops listed, ∃ o v, ops[i]? = some o ∧ ComesTo P ops I o v a ∧ AnyTo P md ops I Q n (listed.setIfInBounds i true) (a.put o.dst v)
theorem AnyTo.any {Q : Act → Prop} {Q' : Exit → Act → World → Prop} (hQ : ∀ a w, Q a → I w → Q' .normal a w) : ∀ (n : Nat) (listed : Array Bool) (a : Act) (w : World), I w → AnyTo P md ops I Q n listed a → wpAny P md ops Q' n listed a w
  | 0, _, _, _, hw, h => ⟨h.1, hQ _ _ h.2 hw⟩
  | n + 1, _, _, _, hw, h => ⟨fun h0 => hQ _ _ (h.1 h0) hw, fun i hi => by
      obtain ⟨o, v, h1, h2, h3⟩ := h.2 i hi
      exact h2.op h1 hw (fun w' hw' => AnyTo.any hQ n _ _ w' hw' h3)⟩

/-- What may come first may be taken first. -/
theorem AnyTo.first {Q : Act → Prop} {i : Nat} {oi : Oper} {v : Value} (hi : ops[i]? = some oi) (hsel : ∀ (j : Nat) (o : Oper) cs b, ops[j]? = some o → o.op ≠ .select cs b) : ∀ (n : Nat) (listed : Array Bool) (a : Act),
    (∀ j oj, ops[j]? = some oj → j ≠ i → listed.getD j true = false → (∀ e ∈ oj.after, Region.binds md e = true → e.on ≠ i) → oi.apart ops oj = true) →
    i ∈ Region.ready md ops listed → ComesTo P ops I oi v a → AnyTo P md ops I Q n (listed.setIfInBounds i true) (a.put oi.dst v) → AnyTo P md ops I Q (n + 1) listed a := by
  intro n
  induction n with
  | zero =>
    intro listed a _ hr hy H
    refine ⟨fun h => (by rw [h] at hr; cases hr), fun j hj => ?_⟩
    by_cases hji : j = i
    · subst hji; exact ⟨oi, v, hi, hy, H⟩
    · have := ready_mono hj hji
      rw [H.1] at this
      cases this
  | succ n ih =>
    intro listed a hfree hr hy H
    refine ⟨fun h => (by rw [h] at hr; cases hr), fun j hj => ?_⟩
    by_cases hji : j = i
    · subst hji; exact ⟨oi, v, hi, hy, H⟩
    · obtain ⟨oj, u, hoj, hyj, Hj⟩ := H.2 j (ready_mono hj hji)
      obtain ⟨hjun, oj', hoj', hall⟩ := mem_ready.1 hj
      obtain rfl : oj' = oj := by rw [hoj] at hoj'; exact (Option.some.inj hoj').symm
      have hnot : ∀ e ∈ oj'.after, Region.binds md e = true → e.on ≠ i := fun e he hb heq => by
        have h1 := hall e he hb
        have h0 := (mem_ready.1 hr).1
        rw [heq] at h1
        rcases Nat.lt_or_ge i listed.size with h' | h'
        · simp [h'] at h0 h1; rw [h0] at h1; cases h1
        · simp [Array.getElem?_eq_none h'] at h1
      obtain ⟨h1, h2, h3⟩ := Oper.apart_spec (hfree j oj' hoj hji hjun hnot)
      have hyj' : ComesTo P ops I oj' u a := hyj.same (execOp_put oj' (fun cs b => hsel j oj' cs b hoj) a oi.dst v h1).symm (wanted_put oj' a oi.dst v h1).symm
      have hyi' : ComesTo P ops I oi v (a.put oj'.dst u) := hy.same (execOp_put oi (fun cs b => hsel i oi cs b hi) a oj'.dst u h3) (wanted_put oi a oj'.dst u h3)
      refine ⟨oj', u, hoj, hyj', ih _ _ (fun k ok hk hki hun hno => ?_) (ready_mono hr (Ne.symm hji)) hyi' ?_⟩
      · refine hfree k ok hk hki ?_ hno
        by_cases hjk : j = k
        · subst hjk; exact hjun
        · rw [getD_set_ne true hjk] at hun; exact hun
      · rw [Array.setIfInBounds_comm _ _ hji, ← Act.put_comm a v u h2]
        exact Hj

/-- The operations in the order of the text. -/
def Calm (P : Program) (ops : Array Oper) (I : World → Prop) (Q : Act → Prop) : List Oper → Act → Prop
  | [], a => Q a
  | o :: rest, a => ∃ v, ComesTo P ops I o v a ∧ Calm P ops I Q rest (a.put o.dst v)
theorem Calm.lex {Q : Act → Prop} (hs : Region.noSelect ops = true) : ∀ (l : List Oper) (k : Nat) (listed : Array Bool) (a : Act), (∀ j, l[j]? = ops[k + j]?) →
    Region.lexFrom md ops l.length k listed = true → Calm P ops I Q l a → AnyTo P md ops I Q l.length listed a
  | [], _, _, _, _, hB, h => ⟨by simpa [Region.lexFrom] using hB, h⟩
  | o :: l, k, listed, a, hl, hB, ⟨v, hy, h⟩ => by
    have h0 : ops[k]? = some o := by simpa using (hl 0).symm
    simp only [List.length_cons, Region.lexFrom, Bool.and_eq_true] at hB
    obtain ⟨⟨hr, hf⟩, hB'⟩ := hB
    exact AnyTo.first h0 (Region.noSelect_spec hs) l.length listed a (Region.free_spec h0 hf) (by simpa using hr) hy
      (Calm.lex hs l (k + 1) _ _ (fun j => by have := hl (j + 1); simpa [Nat.add_assoc, Nat.add_comm 1 j] using this) hB' h)

/-- A REGION THAT DRAWS, under I. -/
theorem wp_calm {id : Nat} {Q : Exit → Act → World → Prop} {a : Act} {w : World} {l : List Oper} (I : World → Prop) (hm : P.follows .mixedOrders = true) (hB : Region.lexB .any l.toArray = true) (h0 : I w.drew)
    (h : Calm P l.toArray I (fun a' => ∀ w', I w' → Q .normal a' w') l a) : (Code.region id l.toArray true).wp P Q a w := by
  simp only [Region.lexB, Bool.and_eq_true] at hB
  refine wp_region_any hm (AnyTo.any (I := I) (Q := fun a' => ∀ w', I w' → Q .normal a' w') (fun a w h hw => h w hw) _ _ _ _ h0 ?_)
  have := Calm.lex (P := P) (md := .any) hB.1 l 0 (Array.replicate l.toArray.size false) a (by simp) (by simpa using hB.2) h
  simpa using this

/-- Whatever order of the first ones: what stands at their end. -/
def HeadTo (P : Program) (md : Region.Mode) (ops : Array Oper) (I : World → Prop) (n : Nat) (L : Array Bool → Act → Prop) : Nat → Array Bool → Act → Prop
  | 0, listed, a => L listed a
  | f + 1, listed, a => Region.ready md ops listed ≠ [] ∧
    ∀ i ∈ Region.ready md ops listed, i < n ∧ ∃ o v, ops[i]? = some o ∧ ComesTo P ops I o v a ∧ HeadTo P md ops I n L f (listed.setIfInBounds i true) (a.put o.dst v)
theorem HeadTo.any {n g : Nat} {L : Array Bool → Act → Prop} {Q' : Exit → Act → World → Prop} (hL : ∀ listed a w, L listed a → I w → wpAny P md ops Q' g listed a w) :
    ∀ (f : Nat) (listed : Array Bool) (a : Act) (w : World), I w → HeadTo P md ops I n L f listed a → wpAny P md ops Q' (f + g) listed a w
  | 0, listed, a, w, hw, h => by rw [Nat.zero_add]; exact hL _ _ _ h hw
  | f + 1, listed, a, w, hw, h => by
    rw [show f + 1 + g = (f + g) + 1 by omega]
    refine ⟨fun h0 => absurd h0 h.1, fun i hi => ?_⟩
    obtain ⟨_, o, v, h1, h2, h3⟩ := h.2 i hi
    exact h2.op h1 hw (fun w' hw' => HeadTo.any hL f _ _ w' hw' h3)
theorem HeadTo.first {n i : Nat} {oi : Oper} {v : Value} {L : Array Bool → Act → Prop} (hi : ops[i]? = some oi) (hsel : ∀ (j : Nat) (o : Oper) cs b, ops[j]? = some o → o.op ≠ .select cs b)
    (hs : Region.sinkB md ops n = true) (hc : Region.chainB md ops n = true) (hn : n < ops.size) (hin : i < n) (hdone : ∀ listed a, L listed a → ∀ j ∈ Region.ready md ops listed, n ≤ j) :
    ∀ (f : Nat) (listed : Array Bool) (a : Act), HeadInv md ops n listed →
      (∀ j oj, ops[j]? = some oj → j ≠ i → listed.getD j true = false → (∀ e ∈ oj.after, Region.binds md e = true → e.on ≠ i) → oi.apart ops oj = true) →
      i ∈ Region.ready md ops listed → ComesTo P ops I oi v a → HeadTo P md ops I n L f (listed.setIfInBounds i true) (a.put oi.dst v) → HeadTo P md ops I n L (f + 1) listed a := by
  intro f
  induction f with
  | zero =>
    intro listed a inv _ hr hy H
    have hun := (mem_ready.1 hr).1
    refine ⟨fun h => (by rw [h] at hr; cases hr), fun j hj => ?_⟩
    have hjn : j < n := by
      rcases Nat.lt_or_ge j n with h | h
      · exact h
      · exact absurd hj (tail_waits hs hc hn inv _ i rfl hin hun j h)
    refine ⟨hjn, ?_⟩
    by_cases hji : j = i
    · subst hji; exact ⟨oi, v, hi, hy, H⟩
    · have := hdone _ _ H j (ready_mono hj hji)
      omega
  | succ f ih =>
    intro listed a inv hfree hr hy H
    have hun := (mem_ready.1 hr).1
    refine ⟨fun h => (by rw [h] at hr; cases hr), fun j hj => ?_⟩
    have hjn : j < n := by
      rcases Nat.lt_or_ge j n with h | h
      · exact h
      · exact absurd hj (tail_waits hs hc hn inv _ i rfl hin hun j h)
    refine ⟨hjn, ?_⟩
    by_cases hji : j = i
    · subst hji; exact ⟨oi, v, hi, hy, H⟩
    · obtain ⟨_, oj, u, hoj, hyj, Hj⟩ := H.2 j (ready_mono hj hji)
      obtain ⟨hjun, oj', hoj', hall⟩ := mem_ready.1 hj
      obtain rfl : oj' = oj := by rw [hoj] at hoj'; exact (Option.some.inj hoj').symm
      have hnot : ∀ e ∈ oj'.after, Region.binds md e = true → e.on ≠ i := fun e he hb heq => by
        have h1 := hall e he hb
        rw [heq, getD_both hun] at h1
        cases h1
      obtain ⟨h1, h2, h3⟩ := Oper.apart_spec (hfree j oj' hoj hji hjun hnot)
      have hyj' : ComesTo P ops I oj' u a := hyj.same (execOp_put oj' (fun cs b => hsel j oj' cs b hoj) a oi.dst v h1).symm (wanted_put oj' a oi.dst v h1).symm
      have hyi' : ComesTo P ops I oi v (a.put oj'.dst u) := hy.same (execOp_put oi (fun cs b => hsel i oi cs b hi) a oj'.dst u h3) (wanted_put oi a oj'.dst u h3)
      refine ⟨oj', u, hoj, hyj', ih _ _ (inv.set hj hjn) (fun k ok hk hki hun hno => ?_) (ready_mono hr (Ne.symm hji)) hyi' ?_⟩
      · refine hfree k ok hk hki ?_ hno
        by_cases hjk : j = k
        · subst hjk; exact hjun
        · rw [getD_set_ne true hjk] at hun; exact hun
      · rw [Array.setIfInBounds_comm _ _ hji, ← Act.put_comm a v u h2]
        exact Hj
theorem HeadTo.lex {n g : Nat} {Lq : Act → Prop} (hsel : Region.noSelect ops = true) (hs : Region.sinkB md ops n = true) (hc : Region.chainB md ops n = true) (hn : n < ops.size) :
    ∀ (l : List Oper) (k : Nat) (listed : Array Bool) (a : Act), (∀ j, j < l.length → l[j]? = ops[k + j]?) → k + l.length = n → HeadInv md ops n listed →
    Region.lexHead md ops g l.length k listed = true → Calm P ops I Lq l a →
    HeadTo P md ops I n (fun listed' a' => Region.seqB md ops g n listed' = true ∧ Lq a') l.length listed a
  | [], k, listed, a, _, hk, _, hB, h => by
    have : k = n := by simpa using hk
    subst this
    exact ⟨by simpa [Region.lexHead] using hB, h⟩
  | o :: l, k, listed, a, hl, hk, inv, hB, ⟨v, hy, h⟩ => by
    have h0 : ops[k]? = some o := by simpa using (hl 0 (by simp)).symm
    simp only [List.length_cons, Region.lexHead, Bool.and_eq_true] at hB
    obtain ⟨⟨hr, hf⟩, hB'⟩ := hB
    have hkn : k < n := by simp only [List.length_cons] at hk; omega
    have hr' : k ∈ Region.ready md ops listed := by simpa using hr
    exact HeadTo.first h0 (Region.noSelect_spec hsel) hs hc hn hkn (fun listed' a' hL => seqB_ready hL.1) l.length listed a inv (Region.free_spec h0 hf) hr' hy
      (HeadTo.lex hsel hs hc hn l (k + 1) _ _ (fun j hj => by have := hl (j + 1) (by simp; omega); simpa [Nat.add_assoc, Nat.add_comm 1 j] using this) (by simp only [List.length_cons] at hk; omega) (inv.set hr' hkn) hB' h)
/-- A REGION THAT DRAWS, under I: its first n operations are calm, the others stand in one order. -/
theorem wp_calm_tail {id : Nat} {Q : Exit → Act → World → Prop} {a : Act} {w : World} {l : List Oper} (n : Nat) (I : World → Prop) (hm : P.follows .mixedOrders = true) (hB : Region.lexTailB .any l.toArray n = true) (h0 : I w.drew)
    (h : Calm P l.toArray I (fun a' => ∀ w', I w' → wpList P l.toArray Q (l.drop n) a' w') (l.take n) a) : (Code.region id l.toArray true).wp P Q a w := by
  simp only [Region.lexTailB, Bool.and_eq_true, decide_eq_true_eq] at hB
  obtain ⟨⟨⟨⟨hsel, hn⟩, hs⟩, hc⟩, hlex⟩ := hB
  have hn' : n < l.length := by simpa using hn
  have htl : (l.take n).length = n := by simp; omega
  have hdl : (l.drop n).length = l.toArray.size - n := by simp
  have inv0 : HeadInv .any l.toArray n (Array.replicate l.toArray.size false) :=
    ⟨by simp, fun j oj _ hl => (by rw [getD_replicate_false] at hl; cases hl), fun t _ ht => getD_in (by simpa using ht) (getD_replicate_false _ _)⟩
  have H := HeadTo.lex (P := P) (md := .any) (g := l.toArray.size - n) hsel hs hc hn (l.take n) 0 _ a (fun j hj => by
    have hj' : j < n := by rw [htl] at hj; exact hj
    simp [hj']) (by simpa using htl) inv0 (by rw [htl]; exact hlex) h
  refine wp_region_any hm ?_
  have := HeadTo.any (Q' := Q) (g := l.toArray.size - n) (fun listed a' w' hL hw' => by
    have := wpAny_of_seq (P := P) (md := .any) (Q' := Q) (l.drop n) n listed a' w' (fun j => by simp [List.getElem?_drop]) (by rw [hdl]; exact hL.1) (hL.2 w' hw')
    rwa [hdl] at this) _ _ _ _ h0 H
  rw [htl, show n + (l.toArray.size - n) = l.toArray.size by omega] at this
  exact this

theorem calm_nil {Q : Act → Prop} {a : Act} (h : Q a) : Calm P ops I Q [] a := h
/-- An operation whose guard says yes, or that has none. -/
theorem calm_step {Q : Act → Prop} {a : Act} {o : Oper} {rest : List Oper} (hw : Region.wanted o (yielded ops a.tmps) = true) {v : Value} (h1 : ∀ w, I w → CameTo P I v ((execOp a.eval o).run P w))
    (h : ∀ K : Act → Prop, (∀ a, Calm P ops I Q rest a → K a) → K (a.put o.dst v)) : Calm P ops I Q (o :: rest) a := ⟨v, .inl ⟨hw, h1⟩, h _ (fun _ h => h)⟩
/-- An operation whose guard says no. -/
theorem calm_pass {Q : Act → Prop} {a : Act} {o : Oper} {rest : List Oper} (hw : Region.wanted o (yielded ops a.tmps) = false)
    (h : ∀ K : Act → Prop, (∀ a, Calm P ops I Q rest a → K a) → K (a.put o.dst undef)) : Calm P ops I Q (o :: rest) a := ⟨undef, .inr ⟨hw, rfl⟩, h _ (fun _ h => h)⟩
/-- The operations of a region that stands in the order of the text. -/
theorem Calm.list {Q : Exit → Act → World → Prop} {Q0 : Act → Prop} {rest : List Oper} (hQ : ∀ a w, Q0 a → I w → wpList P ops Q rest a w) : ∀ (l : List Oper) (a : Act) (w : World), I w → Calm P ops I Q0 l a → wpList P ops Q (l ++ rest) a w
  | [], a, w, hw, h => hQ a w h hw
  | o :: l, a, w, hw, ⟨v, hy, h⟩ => by
    show (if Region.wanted o (yielded ops a.tmps) = true then Oper.wp P o a w (wpList P ops Q (l ++ rest)) Q ∨ (o.asks P a w ∧ LetsOut Q) else wpList P ops Q (l ++ rest) (a.put o.dst undef) w)
    rcases hy with ⟨h1, h2⟩ | ⟨h1, rfl⟩
    · rw [if_pos h1]
      left
      have h3 := h2 w hw
      unfold Oper.wp
      generalize (execOp a.eval o).run P w = r at h3 ⊢
      cases r with
      | ok n w' =>
        cases n <;> simp only [CameTo] at h3 <;> simp only [Oper.upon]
        case value u => obtain ⟨rfl, h4⟩ := h3; exact Calm.list hQ l _ _ h4 h
        case skip => obtain ⟨rfl, h4⟩ := h3; exact Calm.list hQ l _ _ h4 h
        case enter f args => exact h3.mono fun e w'' ⟨he, hi⟩ => by subst he; exact Calm.list hQ l _ _ hi h
      | halt x w' => simp only [CameTo] at h3
    · rw [if_neg (by simp [h1])]
      exact Calm.list hQ l _ _ hw h
end

attribute [go_sem] cameTo_value cameTo_skip cameTo_enter
end Go.Proofs.YtiglgfonhdfpmaaGreat

/- strings.IndexByte as the library's shelf lays it at this program (its text was written by the kit's lay-shelf.mjs and lay-plain.mjs). -/
set_option linter.unusedVariables false
set_option linter.unusedSimpArgs false
namespace Go.Proofs.YtiglgfonhdfpmaaGreat
open Go.Shelf
def idxRen : Go.Shelf.Ren := ⟨fun | 137 => 161 | 217 => 214 | 266 => 262 | n => n, fun | 9 => 9 | 5 => 5 | 3 => 3 | n => n, fun | n => n⟩
theorem idxLays : Go.Proofs.Lays.n137 Tryz.prog idxRen := {
  mixed := by kernel_rfl
  f137 := Tryz.func161.trans (congrArg some (by kernel_rfl))
  f217 := Tryz.func214.trans (congrArg some (by kernel_rfl))
  f266 := Tryz.func262.trans (congrArg some (by kernel_rfl))
  t3 := Tryz.underlying3
  a3 := Tryz.isAgg3
  z3 := Tryz.sizeOf3
  v3 := Tryz.zeroValue3
  t5 := Tryz.underlying5
  a5 := Tryz.isAgg5
  z5 := Tryz.sizeOf5
  v5 := Tryz.zeroValue5
  t9 := Tryz.underlying9
  a9 := Tryz.isAgg9
  z9 := Tryz.sizeOf9
  v9 := Tryz.zeroValue9 }
open Go.RowKit in
theorem strings_IndexByte (s : ByteArray) (c : Int) (w : World) :
    Calls Tryz.prog 161 #[.string s, .int .u8 c] w fun e w' => e = .returned (.int .i64 (Lib.indexByte s.data.toList c.toNat.toUInt8)) ∧ w' = w := Any.strings_IndexByte idxLays s c w

end Go.Proofs.YtiglgfonhdfpmaaGreat

/- What a call returned, read as a number or a bool. Plain laws. -/
set_option linter.unusedVariables false
set_option linter.unusedSimpArgs false
namespace Go.Proofs.YtiglgfonhdfpmaaGreat
open Go.RowKit

theorem ret_bool {a b : Bool} (h : a = b) : Ending.returned (.bool a) = .returned (.bool b) := by rw [h]
end Go.Proofs.YtiglgfonhdfpmaaGreat

/- The walks of Name and Right: which names and items are right. No condition but lengths. -/
set_option linter.unusedVariables false
set_option linter.unusedSimpArgs false
namespace Go.Proofs.YtiglgfonhdfpmaaGreat
open Go.RowKit

def signsL : List UInt8 := [97, 98, 99, 100, 101, 102, 103, 104, 105, 106, 107, 108, 109, 110, 111, 112, 113, 114, 115, 116, 117, 118, 119, 120, 121, 122, 48, 49, 50, 51, 52, 53, 54, 55, 56, 57, 45]
theorem signs_at (c : UInt8) : decide (Lib.indexByte signsL c < 0) = !evSign c := by
  have key : ∀ n : Fin 256, decide (Lib.indexByte signsL (UInt8.ofNat n.val) < 0) = !evSign (UInt8.ofNat n.val) := by decide +kernel
  have := key ⟨c.toNat, UInt8.toNat_lt c⟩
  simpa using this
theorem ev_text_size (bs : List UInt8) : (⟨bs.toArray⟩ : ByteArray).size = bs.length := by simp [ByteArray.size]
theorem ev_text_at (bs : List UInt8) (i : Nat) (h : i < (⟨bs.toArray⟩ : ByteArray).size) {c : UInt8} (hx : bs[i]? = some c) : (⟨bs.toArray⟩ : ByteArray)[i] = c := by
  have hi : i < bs.length := by rw [ev_text_size] at h; exact h
  rw [List.getElem?_eq_getElem hi] at hx
  exact Option.some.inj hx
theorem ev_all_take {bs : List UInt8} {i : Nat} {c : UInt8} {p : UInt8 → Bool} (h : bs[i]? = some c) : (bs.take (i + 1)).all p = ((bs.take i).all p && p c) := by
  rw [take_snoc' h, List.all_append]
  simp
theorem ev_all_false {bs : List UInt8} {i : Nat} {c : UInt8} {p : UInt8 → Bool} (h : bs[i]? = some c) (hp : p c = false) : bs.all p = false := by
  rw [List.all_eq_false]
  exact ⟨c, List.mem_of_getElem? h, by simp [hp]⟩

set_option maxHeartbeats 1000000 in
set_option maxRecDepth 100000 in
theorem ev_name (bs : List UInt8) (hl : bs.length ≤ 9223372036854775807) (w : World) : Calls Tryz.prog 104 #[textV bs] w fun e w' => e = .returned (.bool (nameB bs)) ∧ w' = w := by
  have hsz := ev_text_size bs
  unfold textV
  go_enter Tryz.func104, Tryz.ntmps104
  by_cases h0 : bs = []
  · subst h0
    go_wp2
    go_ret
    exact ⟨rfl, rfl⟩
  · have y1 : (bs == []) = false := by simpa using h0
    by_cases h16 : (16 : Int) < bs.length
    · have z1 : decide ((16 : Int) < (bs.length : Int)) = true := by simpa using h16
      have hn := Lib.hid (show nameB bs = false by unfold nameB; simp; omega)
      go_wp2
      go_ret
      rw [hn.out]
      exact ⟨rfl, rfl⟩
    · have z1 : decide ((16 : Int) < (bs.length : Int)) = false := by simpa using h16
      have hn := Lib.hid (show nameB bs = bs.all evSign by unfold nameB; simp [h0]; omega)
      go_upto_block 1 with (fail)
      go_loopw [13] (fun j wr => ∃ i : Nat, i ≤ bs.length ∧ j = .int .i64 i ∧ (bs.take i).all evSign = true ∧ wr = w) (fun j _ => bs.length - (intOf j).toNat)
      case atStart => exact ⟨0, by omega, rfl, by simp, rfl⟩
      case round =>
        obtain ⟨i, hi, rfl, ha, rfl⟩ := hrel
        by_cases hlt : i < bs.length
        · obtain ⟨c, hx⟩ : ∃ c, bs[i]? = some c := ⟨_, List.getElem?_eq_getElem hlt⟩
          have hc0 := ev_text_at bs i (by rw [hsz]; omega) hx
          have h2 := ev_all_take (p := evSign) hx
          rw [ha, Bool.true_and] at h2
          have hsg := signs_at c
          have kx := fun w' => strings_IndexByte ⟨signsL.toArray⟩ c.toNat w'
          have hcc : ((c.toNat : Int)).toNat.toUInt8 = c := by simp
          simp only [hcc] at kx
          obtain ⟨X, hX⟩ : ∃ X, Lib.indexByte signsL c = X := ⟨_, rfl⟩
          have kx2 : ∀ w', Calls Tryz.prog 161 #[.string ⟨signsL.toArray⟩, .int .u8 c.toNat] w' fun e w'' => e = .returned (.int .i64 X) ∧ w'' = w' := fun w' => by rw [← hX]; exact kx w'
          rw [hX] at hsg
          unfold signsL at kx2
          clear kx hX hcc
          by_cases hs : evSign c = true
          · rw [hs] at h2 hsg
            have hsg : decide (X < 0) = false := hsg
            clear hx ha hs
            go_wp2_with (go_at_call 161; go_must (refine (kx2 _).mono ?_; rintro e w7 ⟨rfl, rfl⟩))
            go_roundw
            case rel => exact ⟨i + 1, by omega, by go_num, h2, by first | rfl | trivial⟩
            case measure => simp [intOf]; omega
          · have hs' : evSign c = false := by simpa using hs
            have h3 := Lib.hid (ev_all_false hx hs')
            rw [hs'] at hsg
            have hsg : decide (X < 0) = true := hsg
            clear hx ha hs hs' h2
            go_wp2_with (go_at_call 161; go_must (refine (kx2 _).mono ?_; rintro e w7 ⟨rfl, rfl⟩))
            go_ret
            rw [hn.out, h3.out]
            exact ⟨rfl, rfl⟩
        · obtain rfl : i = bs.length := by omega
          rw [List.take_length] at ha
          have hah := Lib.hid ha
          clear ha
          go_wp2
          go_ret
          rw [hn.out, hah.out]
          exact ⟨rfl, rfl⟩

abbrev itmV (x : Itm) : Value := .agg #[.int .i64 x.kind, textV x.key, .int .i64 x.time, .int .i64 x.value]
abbrev itmC (x : Itm) : Array Value := #[.int .i64 x.kind, textV x.key, .int .i64 x.time, .int .i64 x.value]

set_option maxHeartbeats 1000000 in
set_option maxRecDepth 100000 in
theorem ev_right (x : Itm) (hx : x.fits) (w : World) : Calls Tryz.prog 71 #[itmV x] w fun e w' => e = .returned (.bool x.right) ∧ Below w.heap.size w w' := by
  obtain ⟨k, key, t, v⟩ := x
  have kn := fun w' => ev_name key hx.2.1 w'
  have H : St (fun _ => False) w (w.alloc (.cells #[.int .i64 k, textV key, .int .i64 t, .int .i64 v] 56)) [Blk w.heap.size #[.int .i64 k, textV key, .int .i64 t, .int .i64 v] 56] := (St.nil (fun _ => False) w).alloc _ _
  obtain ⟨w1, hw1⟩ : ∃ w1, w.alloc (.cells #[.int .i64 k, textV key, .int .i64 t, .int .i64 v] 56) = w1 := ⟨_, rfl⟩
  obtain ⟨b, hb⟩ : ∃ b, w.heap.size = b := ⟨_, rfl⟩
  have hr0 : Itm.right ⟨k, key, t, v⟩ = (decide (0 ≤ t) && decide (t ≤ 1099511627776) && (if k = 1 then nameB key && decide (-1099511627776 ≤ v) && decide (v ≤ 1099511627776) else if k = 2 then key.isEmpty && decide (v = 0) else false)) := rfl
  unfold itmV
  simp only
  go_enter Tryz.func71, Tryz.ntmps71
  go_upto_region 1 with (fail)
  rw [hw1, hb] at H
  try rw [hw1]
  try rw [hb]
  clear hw1 hb
  have c0 := H.cell 0 0 rfl rfl
  have c1 := H.cell 0 1 rfl rfl
  have c2 := H.cell 0 2 rfl rfl
  have c3 := H.cell 0 3 rfl rfl
  unfold textV at c1 kn
  by_cases t0 : t < 0
  · have hr := Lib.hid (show Itm.right ⟨k, key, t, v⟩ = false by rw [hr0, decide_eq_false (show ¬ 0 ≤ t by omega)]; rfl)
    have z0 : decide (t < 0) = true := by simpa using t0
    clear hr0
    go_wp2
    go_ret
    rw [hr.out]
    exact ⟨rfl, H.below (Nat.le_refl _) (fun _ h => h.elim)⟩
  · have z0 : decide (t < 0) = false := by simpa using t0
    by_cases t1 : 1099511627776 < t
    · have hr := Lib.hid (show Itm.right ⟨k, key, t, v⟩ = false by rw [hr0, decide_eq_false (show ¬ t ≤ 1099511627776 by omega), Bool.and_false]; rfl)
      have z1 : decide (1099511627776 < t) = true := by simpa using t1
      clear hr0
      go_wp2
      go_ret
      rw [hr.out]
      exact ⟨rfl, H.below (Nat.le_refl _) (fun _ h => h.elim)⟩
    · have z1 : decide (1099511627776 < t) = false := by simpa using t1
      rw [decide_eq_true (show 0 ≤ t by omega), decide_eq_true (show t ≤ 1099511627776 by omega), Bool.true_and, Bool.true_and] at hr0
      by_cases k1 : k = 1
      · subst k1
        rw [if_pos rfl] at hr0
        obtain ⟨nm, hnm⟩ : ∃ nm, nameB key = nm := ⟨_, rfl⟩
        rw [hnm] at kn hr0
        clear hnm
        cases nm with
        | false =>
          have hr := Lib.hid (hr0.trans rfl)
          clear hr0
          go_wp2_with (go_at_call 104; go_must (refine (kn _).mono ?_; rintro e w7 ⟨rfl, rfl⟩))
          go_ret
          rw [hr.out]
          exact ⟨rfl, H.below (Nat.le_refl _) (fun _ h => h.elim)⟩
        | true =>
          rw [Bool.true_and] at hr0
          by_cases v0 : -1099511627776 ≤ v
          · have z2 : decide (-1099511627776 ≤ v) = true := by simpa using v0
            rw [z2, Bool.true_and] at hr0
            by_cases v1 : v ≤ 1099511627776
            · have z3 : decide (v ≤ 1099511627776) = true := by simpa using v1
              rw [z3] at hr0
              have hr := Lib.hid hr0
              clear hr0
              go_wp2_with (go_at_call 104; go_must (refine (kn _).mono ?_; rintro e w7 ⟨rfl, rfl⟩))
              go_ret
              rw [hr.out]
              exact ⟨rfl, H.below (Nat.le_refl _) (fun _ h => h.elim)⟩
            · have z3 : decide (v ≤ 1099511627776) = false := by simpa using v1
              rw [z3] at hr0
              have hr := Lib.hid hr0
              clear hr0
              go_wp2_with (go_at_call 104; go_must (refine (kn _).mono ?_; rintro e w7 ⟨rfl, rfl⟩))
              go_ret
              rw [hr.out]
              exact ⟨rfl, H.below (Nat.le_refl _) (fun _ h => h.elim)⟩
          · have z2 : decide (-1099511627776 ≤ v) = false := by simpa using v0
            rw [z2, Bool.false_and] at hr0
            have hr := Lib.hid hr0
            clear hr0
            go_wp2_with (go_at_call 104; go_must (refine (kn _).mono ?_; rintro e w7 ⟨rfl, rfl⟩))
            go_ret
            rw [hr.out]
            exact ⟨rfl, H.below (Nat.le_refl _) (fun _ h => h.elim)⟩
      · have y1 : (k == 1) = false := by simpa using k1
        rw [if_neg k1] at hr0
        by_cases k2 : k = 2
        · subst k2
          rw [if_pos rfl] at hr0
          by_cases e0 : key = []
          · subst e0
            by_cases v0 : v = 0
            · subst v0
              have hr := Lib.hid (hr0.trans rfl)
              clear hr0
              go_wp2
              go_ret
              rw [hr.out]
              exact ⟨rfl, H.below (Nat.le_refl _) (fun _ h => h.elim)⟩
            · have y2 : (v == 0) = false := by simpa using v0
              have hr := Lib.hid (show Itm.right ⟨2, [], t, v⟩ = false by rw [hr0]; simpa using v0)
              clear hr0
              go_wp2
              go_ret
              rw [hr.out]
              exact ⟨rfl, H.below (Nat.le_refl _) (fun _ h => h.elim)⟩
          · have y3 : (key == []) = false := by simpa using e0
            have hr := Lib.hid (show Itm.right ⟨2, key, t, v⟩ = false by rw [hr0]; simp [e0])
            clear hr0
            go_wp2
            go_ret
            rw [hr.out]
            exact ⟨rfl, H.below (Nat.le_refl _) (fun _ h => h.elim)⟩
        · have y2 : (k == 2) = false := by simpa using k2
          rw [if_neg k2] at hr0
          have hr := Lib.hid hr0
          clear hr0
          go_wp2
          go_ret
          rw [hr.out]
          exact ⟨rfl, H.below (Nat.le_refl _) (fun _ h => h.elim)⟩

end Go.Proofs.YtiglgfonhdfpmaaGreat

/- An array by value into the midst of a block. Laws over any program. -/
set_option linter.unusedVariables false
set_option linter.unusedSimpArgs false
namespace Go.Proofs.YtiglgfonhdfpmaaGreat
open Go.RowKit

def mayCells (w : World) (b o n : Nat) : Bool := (List.range n).all fun j => (w.cell? ⟨b, o + j, none⟩).isSome && !(w.frozen? ⟨b, o + j, none⟩)
@[go_sem] theorem mayCells_drew (w : World) (b o n : Nat) : mayCells w.drew b o n = mayCells w b o n := rfl
theorem mayCells_there {w : World} {b o n : Nat} (h : mayCells w b o n = true) : w.there b o n := fun j hj => by
  have := List.all_eq_true.1 h j (by simpa using hj)
  simpa using this
theorem mayCells_blk {w : World} {b o n : Nat} {cs : Array Value} {t : TypeId} (h : w.heap[b]? = some (.cells cs t (0, 0))) (hn : o + n ≤ cs.size) : mayCells w b o n = true := by
  refine List.all_eq_true.2 fun j hj => ?_
  have hj' : j < n := by simpa using hj
  rw [cell_blk h, free_blk h, Array.getElem?_eq_getElem (by omega)]
  rfl
theorem run_store_mid {P : Program} {w : World} {a : Act} {dst : Option Tmp} {ty' : TypeId} {pos : String} {after : Array Edge} {g : Option (Nat × Bool)} {t : TypeId} {x y : Operand} {n : Nat}
    (hi : (P.info? t).map (·.size) = some n) (hp : plainPtr (a.eval x) = true) (hr : mayCells w (blockOf (a.eval x)) (placeOf (a.eval x)) n = true) (hv : isAggV (a.eval y) = true) (hs : (aggOf (a.eval y)).size = n) (h1 : allOne (aggOf (a.eval y)) = true) :
    (execOp a.eval ⟨dst, .store t x y, ty', pos, after, g⟩).run P w = .ok .skip (w.setCells (blockOf (a.eval x)) (placeOf (a.eval x)) (aggOf (a.eval y)).toList) := by
  cases hx : a.eval x with
  | pointer q =>
    cases q with
    | none => rw [hx] at hp; cases hp
    | some ad =>
      obtain ⟨b, o, sp⟩ := ad
      rw [hx] at hp hr
      obtain rfl : sp = none := by simpa [plainPtr] using hp
      cases hy : a.eval y with
      | agg cells =>
        rw [hy] at hs h1
        rw [aggOf_lit] at hs h1
        have := run_storeAt_mid (P := P) w b o t cells (by rw [hs]; exact mayCells_there hr) (by rw [hi, hs]) h1
        unfold execOp
        simp only [hx, hy, Sem.run_bind, this, Result.andThen_ok]
        rfl
      | _ => rw [hy] at hv; cases hv
  | _ => rw [hx] at hp; cases hp
theorem splice_cons (cs : List Value) (o : Nat) (v : Value) (r : List Value) (h : o < cs.length) : splice (cs.set o v) (o + 1) r = splice cs o (v :: r) := by
  unfold splice
  rw [List.set_eq_take_append_cons_drop, if_pos h]
  have e1 : (cs.take o).length = o := by rw [List.length_take]; omega
  rw [List.take_append, List.drop_append, e1, List.take_of_length_le (l := cs.take o) (by omega), show o + 1 - o = 1 by omega]
  rw [List.take_succ_cons, List.take_zero, List.drop_of_length_le (l := cs.take o) (by omega), show o + 1 + r.length - o = r.length + 1 by omega, List.drop_succ_cons, List.drop_drop, List.length_cons]
  simp only [List.append_assoc, List.cons_append, List.nil_append]
  rw [show o + 1 + r.length = o + (r.length + 1) by omega]
theorem St.setCells {S : Nat → Prop} {w0 : World} (i : Nat) {b : Nat} {t : TypeId} : ∀ (vs : List Value) (o : Nat) (cs : List Value) (w : World) (l : List SP), St S w0 w l → l[i]? = some (Blk b cs.toArray t) → o + vs.length ≤ cs.length → St S w0 (w.setCells b o vs) (l.set i (Blk b (splice cs o vs).toArray t))
  | [], o, cs, w, l, H, hi, _ => by
    have e : splice cs o [] = cs := by simp [splice]
    rw [e]
    have hs : l.set i (Blk b cs.toArray t) = l := by
      refine List.ext_getElem? fun j => ?_
      rw [List.getElem?_set]
      split
      · rename_i h
        subst h
        rw [if_pos (List.getElem?_eq_some_iff.1 hi).1, hi]
      · rfl
    rw [hs]
    exact H
  | v :: r, o, cs, w, l, H, hi, hle => by
    simp only [List.length_cons] at hle
    have h := H.set i hi o v
    have hlt := (List.getElem?_eq_some_iff.1 hi).1
    have e : (cs.toArray.setIfInBounds o v) = (cs.set o v).toArray := by simp
    rw [e] at h
    have h2 := St.setCells i r (o + 1) (cs.set o v) _ _ h (by rw [List.getElem?_set_self hlt]) (by rw [List.length_set]; omega)
    rw [List.set_set, splice_cons _ _ _ _ (by omega)] at h2
    exact h2

end Go.Proofs.YtiglgfonhdfpmaaGreat

/- Items in a row of a call's own: plain laws; own rows as blocks; an item stored into the midst. -/
set_option linter.unusedVariables false
set_option linter.unusedSimpArgs false
namespace Go.Proofs.YtiglgfonhdfpmaaGreat
open Go.RowKit

theorem Tryz.info56 : (Tryz.prog.info? 56).map (fun i => (i.zero, i.size, i.bytes)) = some (some (.agg #[.int .i64 0, .string ⟨#[]⟩, .int .i64 0, .int .i64 0]), 4, 40) := by kernel_rfl
def itms (l : List Itm) : List Value := (l.map fun x => (itmC x).toList).flatten
theorem itms_app (l m : List Itm) : itms (l ++ m) = itms l ++ itms m := by simp [itms]
theorem itms_one (x : Itm) : itms [x] = [.int .i64 x.kind, textV x.key, .int .i64 x.time, .int .i64 x.value] := by simp [itms]
theorem itms_len (l : List Itm) : (itms l).length = l.length * 4 := by
  induction l with
  | nil => rfl
  | cons x l ih => simp only [itms, List.map_cons, List.flatten_cons, List.length_append, List.length_cons] at ih ⊢; rw [ih]; simp; omega
theorem itms_get {l : List Itm} {i j : Nat} {x : Itm} {v : Value} (hi : l[i]? = some x) (hj : (itmC x).toList[j]? = some v) : (itms l)[i * 4 + j]? = some v := by
  have hk : ∀ y ∈ l.map fun x => (itmC x).toList, y.length = 4 := by
    intro y hy
    obtain ⟨x, _, rfl⟩ := List.mem_map.1 hy
    rfl
  have hi2 : (l.map fun x => (itmC x).toList)[i]? = some (itmC x).toList := by rw [List.getElem?_map, hi]; rfl
  have hj4 : j < 4 := (List.getElem?_eq_some_iff.1 hj).1
  exact (flat_get hk hi2 hj4).trans hj
theorem itms_one1 (l : List Itm) : ∀ u ∈ itms l, u.oneCell' = true := by
  intro u hu
  obtain ⟨y, hy, hu⟩ := List.mem_flatten.1 hu
  obtain ⟨x, _, rfl⟩ := List.mem_map.1 hy
  simp at hu
  rcases hu with rfl | rfl | rfl | rfl <;> rfl

/-- Items that can be read. -/
def ItmsRO (w : World) (v : Value) (l : List Itm) : Prop :=
  ∃ ad cap, v = .slice ad l.length cap ∧ l.length ≤ cap ∧ (∀ x ∈ l, x.fits) ∧ (l ≠ [] → ∃ b o, ad = some ⟨b, o, none⟩ ∧ b < w.heap.size ∧ ∀ i x, l[i]? = some x → w.rangeAt b (o + i * 4) (itmC x).toList)
theorem ItmsRO.later {w w' : World} {v : Value} {l : List Itm} (hv : ItmsRO w v l) (hk : Kept (fun _ => False) w w') : ItmsRO w' v l := by
  obtain ⟨ad, cap, e1, e2, e3, e4⟩ := hv
  refine ⟨ad, cap, e1, e2, e3, fun hl => ?_⟩
  obtain ⟨b, o, g1, g2, g4⟩ := e4 hl
  exact ⟨b, o, g1, Nat.lt_of_lt_of_le g2 hk.size, fun i x hi j v hj => (World.cell?_of_block (w := w) (hk.block b g2 id)).trans (g4 i x hi j v hj)⟩
theorem itm_cells {w w' : World} {b o i : Nat} {x : Itm} (h : w.rangeAt b (o + i * 4) (itmC x).toList) (hb : w'.heap[b]? = w.heap[b]?) :
    w'.cell? ⟨b, o + i * 4, none⟩ = some (.int .i64 x.kind) ∧ w'.cell? ⟨b, o + i * 4 + 1, none⟩ = some (textV x.key) ∧ w'.cell? ⟨b, o + i * 4 + 2, none⟩ = some (.int .i64 x.time) ∧ w'.cell? ⟨b, o + i * 4 + 3, none⟩ = some (.int .i64 x.value) :=
  ⟨(World.cell?_of_block hb).trans (h 0 _ rfl), (World.cell?_of_block hb).trans (h 1 _ rfl), (World.cell?_of_block hb).trans (h 2 _ rfl), (World.cell?_of_block hb).trans (h 3 _ rfl)⟩
theorem itms_own {w : World} {v : Value} {n : Nat} {l : List Itm} (h : w.ownsRow 0 56 4 v n (itms l)) (hf : ∀ x ∈ l, x.fits) : ItmsRO w v l := by
  have hn : n = l.length := by
    have := h.1
    have e := itms_len l
    omega
  subst hn
  rcases own_shape h with ⟨rfl, h0⟩ | ⟨g, cap, rfl, hc, hg⟩
  · obtain rfl : l = [] := List.eq_nil_of_length_eq_zero h0
    exact ⟨none, 0, rfl, Nat.le_refl _, by simp, fun h => absurd rfl h⟩
  · refine ⟨_, cap, rfl, hc, hf, fun _ => ⟨g, 0, rfl, hg, fun i x hi j z hj => ?_⟩⟩
    show w.cell? ⟨g, 0 + i * 4 + j, none⟩ = some z
    rw [Nat.zero_add]
    exact own_cell h (itms_get hi hj)
/-- All cells of readable items, one by one. -/
theorem ItmsRO.cells {w : World} {v : Value} {l : List Itm} (hv : ItmsRO w v l) : ∃ ad cap, v = .slice ad l.length cap ∧ (ad = none → l = []) ∧ ∀ p, ad = some p → ∀ j u, (itms l)[j]? = some u → w.cell? (p.add j) = some u := by
  obtain ⟨ad, cap, rfl, _, _, h⟩ := hv
  refine ⟨ad, cap, rfl, fun e => ?_, fun p hp j u hj => ?_⟩
  · refine Classical.byContradiction fun hl => ?_
    obtain ⟨b, o, e2, _⟩ := h hl
    rw [e] at e2
    cases e2
  · by_cases hl : l = []
    · subst hl; simp [itms] at hj
    · obtain ⟨b, o, e2, _, h4⟩ := h hl
      rw [hp] at e2
      obtain rfl := Option.some.inj e2
      have hlt := (List.getElem?_eq_some_iff.1 hj).1
      rw [itms_len] at hlt
      obtain ⟨x, hx⟩ : ∃ x, l[j / 4]? = some x := ⟨_, List.getElem?_eq_getElem (by omega)⟩
      have hm : j % 4 < (itmC x).toList.length := by show j % 4 < 4; omega
      have hj2 := itms_get hx (List.getElem?_eq_getElem hm)
      rw [show j / 4 * 4 + j % 4 = j by omega, hj] at hj2
      rw [Addr.add_lit]
      have := h4 (j / 4) x hx (j % 4) u ((List.getElem?_eq_getElem hm).trans hj2.symm)
      rw [show o + j / 4 * 4 + j % 4 = o + j by omega] at this
      exact this

section
variable {S : Nat → Prop} {w0 w w' : World} {l : List SP}
/-- An own row that is not empty is a block. -/
theorem St.row_blk (h : St S w0 w l) (i : Nat) {e : TypeId} {size : Nat} {v : Value} {n : Nat} {xs : List Value} (hi : l[i]? = some (Row e size v n xs)) (hn : n ≠ 0) :
    ∃ g cap R, v = .slice (some ⟨g, 0, none⟩) n cap ∧ n ≤ cap ∧ cap ≤ maxLen ∧ xs.length = n * size ∧ (xs ++ R).length = cap * size ∧ St S w0 w (l.set i (Blk g (xs ++ R).toArray e)) := by
  obtain ⟨S1, h1, h2⟩ := h.turn i hi
  obtain ⟨⟨hl, ho⟩, hS⟩ := h1
  rcases ho with ⟨_, h0⟩ | ⟨g, cap, cur, hv, _, hg, hnc, hcm, hcs, hx⟩
  · exact absurd h0 hn
  · have ec : xs ++ cur.toList.drop (n * size) = cur.toList := by rw [← hx, List.take_append_drop]
    refine ⟨g, cap, cur.toList.drop (n * size), hv, hnc, hcm, hl, by rw [ec]; simpa using hcs, ?_⟩
    refine h2 (S1' := S1) (Kept.refl _ _) ⟨?_, fun k => ?_⟩ (fun k hk => .inl hk)
    · rw [ec]; simpa using hg
    · rw [hS k, hv]
      show some g = some k ↔ k = g
      constructor
      · intro e; exact (Option.some.inj e).symm
      · intro e; rw [e]
/-- A block is an own row, so long as you say. -/
theorem St.blk_row (h : St S w0 w l) (i : Nat) {e : TypeId} {size g cap n : Nat} {cs : List Value} {xs : List Value} (hi : l[i]? = some (Blk g cs.toArray e)) (hnc : n ≤ cap) (hcm : cap ≤ maxLen) (hc : cs.length = cap * size) (hx : cs.take (n * size) = xs) :
    St S w0 w (l.set i (Row e size (.slice (some ⟨g, 0, none⟩) n cap) n xs)) := by
  obtain ⟨S1, h1, h2⟩ := h.turn i hi
  refine h2 (S1' := S1) (Kept.refl _ _) ⟨⟨?_, .inr ⟨g, cap, cs.toArray, rfl, Nat.zero_le _, h1.1, hnc, hcm, by simpa using hc, by simpa using hx⟩⟩, fun k => ?_⟩ (fun k hk => .inl hk)
  · rw [← hx, List.length_take, hc]
    have := Nat.mul_le_mul_right size hnc
    omega
  · rw [h1.2 k]
    show k = g ↔ some g = some k
    constructor
    · intro e; rw [e]
    · intro e; exact (Option.some.inj e).symm
end
end Go.Proofs.YtiglgfonhdfpmaaGreat

/- A region that draws its order, with calls that write or that make memory: its operations in a given order (small ones first; a call stands alone when it is ready) tell of every order. Laws over any program. -/
set_option linter.unusedVariables false
set_option linter.unusedSimpArgs false
namespace Go.Proofs.YtiglgfonhdfpmaaGreat
open Go.RowKit

section
variable {P : Program} {ops : Array Oper} {md : Region.Mode}

/-- The operation came to a value and a new invariant. -/
def CameV (P : Program) (V : Value → (World → Prop) → Prop) : Result Next → Prop
  | .ok (.value u) w' => ∃ I', V u I' ∧ I' w'
  | .ok .skip w' => ∃ I', V undef I' ∧ I' w'
  | .ok (.enter f args) w' => Calls P f args w' fun e w'' => ∃ v I', e = .returned v ∧ V v I' ∧ I' w''
  | _ => False
theorem cameV_value (V : Value → (World → Prop) → Prop) (u : Value) (w' : World) : CameV P V (.ok (.value u) w') = ∃ I', V u I' ∧ I' w' := rfl
theorem cameV_skip (V : Value → (World → Prop) → Prop) (w' : World) : CameV P V (.ok .skip w') = ∃ I', V undef I' ∧ I' w' := rfl
theorem cameV_enter (V : Value → (World → Prop) → Prop) (f : Nat) (args : Array Value) (w' : World) : CameV P V (.ok (.enter f args) w') = Calls P f args w' (fun e w'' => ∃ v I', e = .returned v ∧ V v I' ∧ I' w'') := rfl

def StepTo (P : Program) (ops : Array Oper) (I : World → Prop) (o : Oper) (V : Value → (World → Prop) → Prop) (a : Act) : Prop :=
  (Region.wanted o (yielded ops a.tmps) = true ∧ ∀ w, I w → CameV P V ((execOp a.eval o).run P w)) ∨ (Region.wanted o (yielded ops a.tmps) = false ∧ V undef I)
theorem StepTo.same {I : World → Prop} {o : Oper} {V : Value → (World → Prop) → Prop} {a a' : Act} (h : StepTo P ops I o V a) (he : execOp a'.eval o = execOp a.eval o) (hw : Region.wanted o (yielded ops a'.tmps) = Region.wanted o (yielded ops a.tmps)) : StepTo P ops I o V a' := by
  unfold StepTo at *
  rw [he, hw]
  exact h
theorem StepTo.op {I : World → Prop} {i : Nat} {o : Oper} {V : Value → (World → Prop) → Prop} {a : Act} {w : World} {K : Act → World → Prop} {Q : Exit → Act → World → Prop} (hi : ops[i]? = some o) (h : StepTo P ops I o V a) (hw : I w)
    (hK : ∀ v I', V v I' → ∀ w, I' w → K (a.put o.dst v) w) : wpOp P ops Q i K a w := by
  unfold wpOp
  simp only [hi]
  rcases h with ⟨h1, h2⟩ | ⟨h1, h2⟩
  · rw [if_pos h1]
    left
    have h3 := h2 w hw
    unfold Oper.wp
    generalize (execOp a.eval o).run P w = r at h3 ⊢
    cases r with
    | ok n w' =>
      cases n <;> simp only [CameV] at h3 <;> simp only [Oper.upon]
      case value u => obtain ⟨I', h4, h5⟩ := h3; exact hK _ _ h4 _ h5
      case skip => obtain ⟨I', h4, h5⟩ := h3; exact hK _ _ h4 _ h5
      case enter f args => exact h3.mono fun e w'' ⟨v, I', he, h4, h5⟩ => by subst he; exact hK _ _ h4 _ h5
    | halt x w' => simp only [CameV] at h3
  · rw [if_neg (by simp [h1])]
    exact hK _ _ h2 _ hw

/-- One value in every world of every invariant of the class. -/
def SmallOp (P : Program) (ops : Array Oper) (C : (World → Prop) → Prop) (o : Oper) (v : Value) (a : Act) : Prop :=
  (Region.wanted o (yielded ops a.tmps) = true ∧ ∀ I, C I → ∀ w, I w → CameTo P I v ((execOp a.eval o).run P w)) ∨ (Region.wanted o (yielded ops a.tmps) = false ∧ v = undef)
theorem SmallOp.same {C : (World → Prop) → Prop} {o : Oper} {v : Value} {a a' : Act} (h : SmallOp P ops C o v a) (he : execOp a'.eval o = execOp a.eval o) (hw : Region.wanted o (yielded ops a'.tmps) = Region.wanted o (yielded ops a.tmps)) : SmallOp P ops C o v a' := by
  unfold SmallOp at *
  rw [he, hw]
  exact h
theorem SmallOp.step {C : (World → Prop) → Prop} {o : Oper} {v : Value} {a : Act} (h : SmallOp P ops C o v a) {I : World → Prop} (hI : C I) : StepTo P ops I o (fun u I' => u = v ∧ I' = I) a := by
  rcases h with ⟨h1, h2⟩ | ⟨h1, rfl⟩
  · refine .inl ⟨h1, fun w hw => ?_⟩
    have h3 := h2 I hI w hw
    generalize (execOp a.eval o).run P w = r at h3 ⊢
    cases r with
    | ok n w' =>
      cases n <;> simp only [CameTo] at h3 <;> simp only [CameV]
      case value u => exact ⟨I, ⟨h3.1, rfl⟩, h3.2⟩
      case skip => exact ⟨I, ⟨h3.1.symm, rfl⟩, h3.2⟩
      case enter f args => exact h3.mono fun e w'' ⟨he, hi⟩ => ⟨v, I, he, ⟨rfl, rfl⟩, hi⟩
    | halt x w' => simp only [CameTo] at h3
  · exact .inr ⟨h1, rfl, rfl⟩

def AnyI (P : Program) (md : Region.Mode) (ops : Array Oper) (Q : Act → World → Prop) (C : (World → Prop) → Prop) : Nat → Array Bool → Act → (World → Prop) → Prop
  | 0, listed, a, I => Region.ready md ops listed = [] ∧ ∀ w, I w → Q a w
  | n + 1, listed, a, I => (Region.ready md ops listed = [] → ∀ w, I w → Q a w) ∧
    ∀ i ∈ Region.ready md ops listed, ∃ o V, ops[i]? = some o ∧ StepTo P ops I o V a ∧ ∀ v I', V v I' → C I' ∧ AnyI P md ops Q C n (listed.setIfInBounds i true) (a.put o.dst v) I'
theorem AnyI.any {Q : Act → World → Prop} {Q' : Exit → Act → World → Prop} {C : (World → Prop) → Prop} (hQ : ∀ a w, Q a w → Q' .normal a w) : ∀ (n : Nat) (listed : Array Bool) (a : Act) (I : World → Prop) (w : World), I w → AnyI P md ops Q C n listed a I → wpAny P md ops Q' n listed a w
  | 0, _, _, _, _, hw, h => ⟨h.1, hQ _ _ (h.2 _ hw)⟩
  | n + 1, _, _, _, _, hw, h => ⟨fun h0 => hQ _ _ (h.1 h0 _ hw), fun i hi => by
      obtain ⟨o, V, h1, h2, h3⟩ := h.2 i hi
      exact h2.op h1 hw (fun v I' hv w' hw' => AnyI.any hQ n _ _ _ w' hw' (h3 v I' hv).2)⟩
theorem AnyI.mono {Q : Act → World → Prop} {C C' : (World → Prop) → Prop} (hC : ∀ I, C' I → C I) : ∀ {n : Nat} {listed : Array Bool} {a : Act} {I : World → Prop}, AnyI P md ops Q C' n listed a I → AnyI P md ops Q C n listed a I
  | 0, _, _, _, h => h
  | n + 1, _, _, _, h => ⟨h.1, fun i hi => by
      obtain ⟨o, V, h1, h2, h3⟩ := h.2 i hi
      exact ⟨o, V, h1, h2, fun v I' hv => ⟨hC _ (h3 v I' hv).1, AnyI.mono hC (h3 v I' hv).2⟩⟩⟩

/-- A small one that may come first may be taken first. -/
theorem AnyI.first {Q : Act → World → Prop} {C : (World → Prop) → Prop} {i : Nat} {oi : Oper} {v : Value} (hi : ops[i]? = some oi) (hsel : ∀ (j : Nat) (o : Oper) cs b, ops[j]? = some o → o.op ≠ .select cs b) : ∀ (n : Nat) (listed : Array Bool) (a : Act) (I : World → Prop), C I →
    (∀ j oj, ops[j]? = some oj → j ≠ i → listed.getD j true = false → (∀ e ∈ oj.after, Region.binds md e = true → e.on ≠ i) → oi.apart ops oj = true) →
    i ∈ Region.ready md ops listed → SmallOp P ops C oi v a → AnyI P md ops Q C n (listed.setIfInBounds i true) (a.put oi.dst v) I → AnyI P md ops Q C (n + 1) listed a I := by
  intro n
  induction n with
  | zero =>
    intro listed a I hI _ hr hy H
    refine ⟨fun h => (by rw [h] at hr; cases hr), fun j hj => ?_⟩
    by_cases hji : j = i
    · subst hji
      refine ⟨oi, _, hi, hy.step hI, ?_⟩
      rintro v' I' ⟨rfl, rfl⟩
      exact ⟨hI, H⟩
    · have := ready_mono hj hji
      rw [H.1] at this
      cases this
  | succ n ih =>
    intro listed a I hI hfree hr hy H
    refine ⟨fun h => (by rw [h] at hr; cases hr), fun j hj => ?_⟩
    by_cases hji : j = i
    · subst hji
      refine ⟨oi, _, hi, hy.step hI, ?_⟩
      rintro v' I' ⟨rfl, rfl⟩
      exact ⟨hI, H⟩
    · obtain ⟨oj, V, hoj, hyj, Hj⟩ := H.2 j (ready_mono hj hji)
      obtain ⟨hjun, oj', hoj', hall⟩ := mem_ready.1 hj
      obtain rfl : oj' = oj := by rw [hoj] at hoj'; exact (Option.some.inj hoj').symm
      have hnot : ∀ e ∈ oj'.after, Region.binds md e = true → e.on ≠ i := fun e he hb heq => by
        have h1 := hall e he hb
        have h0 := (mem_ready.1 hr).1
        rw [heq] at h1
        rcases Nat.lt_or_ge i listed.size with h' | h'
        · simp [h'] at h0 h1; rw [h0] at h1; cases h1
        · simp [Array.getElem?_eq_none h'] at h1
      obtain ⟨h1, h2, h3⟩ := Oper.apart_spec (hfree j oj' hoj hji hjun hnot)
      have hyj' : StepTo P ops I oj' V a := hyj.same (execOp_put oj' (fun cs b => hsel j oj' cs b hoj) a oi.dst v h1).symm (wanted_put oj' a oi.dst v h1).symm
      refine ⟨oj', V, hoj, hyj', fun u I' hu => ⟨(Hj u I' hu).1, ?_⟩⟩
      have hyi' : SmallOp P ops C oi v (a.put oj'.dst u) := hy.same (execOp_put oi (fun cs b => hsel i oi cs b hi) a oj'.dst u h3) (wanted_put oi a oj'.dst u h3)
      refine ih _ _ I' (Hj u I' hu).1 (fun k ok hk hki hun hno => ?_) (ready_mono hr (Ne.symm hji)) hyi' ?_
      · refine hfree k ok hk hki ?_ hno
        by_cases hjk : j = k
        · subst hjk; exact hjun
        · rw [getD_set_ne true hjk] at hun; exact hun
      · rw [Array.setIfInBounds_comm _ _ hji, ← Act.put_comm a v u h2]
        exact (Hj u I' hu).2

/-- The operations in this order: (i, false) small, (i, true) alone. -/
def Script (P : Program) (ops : Array Oper) (Q : Act → World → Prop) : List (Nat × Bool) → ((World → Prop) → Prop) → Act → (World → Prop) → Prop
  | [], _, a, I => ∀ w, I w → Q a w
  | (i, false) :: rest, C, a, I => ∃ o v, ops[i]? = some o ∧ SmallOp P ops C o v a ∧ Script P ops Q rest C (a.put o.dst v) I
  | (i, true) :: rest, C, a, I => ∃ o V, ops[i]? = some o ∧ StepTo P ops I o V a ∧ ∀ v I', V v I' → ∃ C', (∀ I, C' I → C I) ∧ C' I' ∧ Script P ops Q rest C' (a.put o.dst v) I'
def scriptB (md : Region.Mode) (ops : Array Oper) : List (Nat × Bool) → Array Bool → Bool
  | [], listed => (Region.ready md ops listed).isEmpty
  | (i, false) :: rest, listed => (Region.ready md ops listed).contains i && Region.free md ops listed i && scriptB md ops rest (listed.setIfInBounds i true)
  | (i, true) :: rest, listed => decide (Region.ready md ops listed = [i]) && scriptB md ops rest (listed.setIfInBounds i true)
theorem Script.any {Q : Act → World → Prop} (hs : Region.noSelect ops = true) : ∀ (l : List (Nat × Bool)) (C : (World → Prop) → Prop) (listed : Array Bool) (a : Act) (I : World → Prop), C I → scriptB md ops l listed = true → Script P ops Q l C a I → AnyI P md ops Q C l.length listed a I
  | [], _, _, _, _, _, hB, h => ⟨by simpa [scriptB] using hB, h⟩
  | (i, false) :: l, C, listed, a, I, hC, hB, ⟨o, v, h0, hy, h⟩ => by
    simp only [scriptB, Bool.and_eq_true] at hB
    obtain ⟨⟨hr, hf⟩, hB'⟩ := hB
    exact AnyI.first h0 (Region.noSelect_spec hs) l.length listed a I hC (Region.free_spec h0 hf) (by simpa using hr) hy (Script.any hs l C _ _ I hC hB' h)
  | (i, true) :: l, C, listed, a, I, hC, hB, ⟨o, V, h0, hy, h⟩ => by
    simp only [scriptB, Bool.and_eq_true, decide_eq_true_eq] at hB
    obtain ⟨hr, hB'⟩ := hB
    refine ⟨fun h => (by rw [hr] at h; cases h), fun j hj => ?_⟩
    rw [hr] at hj
    obtain rfl : j = i := by simpa using hj
    refine ⟨o, V, h0, hy, fun v I' hv => ?_⟩
    obtain ⟨C', h1, h2, h3⟩ := h v I' hv
    exact ⟨h1 _ h2, AnyI.mono h1 (Script.any hs l C' _ _ I' h2 hB' h3)⟩

/-- A REGION THAT DRAWS, by a script. -/
theorem wp_script {id : Nat} {Q : Exit → Act → World → Prop} {a : Act} {w : World} {l : List Oper} (s : List (Nat × Bool)) (C : (World → Prop) → Prop) (I : World → Prop) (hm : P.follows .mixedOrders = true) (hl : s.length = l.length) (hs : Region.noSelect l.toArray = true)
    (hB : scriptB .any l.toArray s (Array.replicate l.toArray.size false) = true) (h0 : I w.drew) (hC : C I) (h : Script P l.toArray (fun a w => Q .normal a w) s C a I) : (Code.region id l.toArray true).wp P Q a w := by
  refine wp_region_any hm ?_
  have := AnyI.any (Q' := Q) (fun _ _ h => h) _ _ _ _ _ h0 (Script.any hs s C _ a I hC hB h)
  rwa [hl] at this

variable {Q : Act → World → Prop} {rest : List (Nat × Bool)} {C : (World → Prop) → Prop} {a : Act} {I : World → Prop} {i : Nat} {o : Oper}
theorem script_nil (h : ∀ w, I w → Q a w) : Script P ops Q [] C a I := h
theorem script_step (ho : ops[i]? = some o) (hw : Region.wanted o (yielded ops a.tmps) = true) {v : Value} (h1 : ∀ I, C I → ∀ w, I w → CameTo P I v ((execOp a.eval o).run P w))
    (h : ∀ K : Act → Prop, (∀ a, Script P ops Q rest C a I → K a) → K (a.put o.dst v)) : Script P ops Q ((i, false) :: rest) C a I := ⟨o, v, ho, .inl ⟨hw, h1⟩, h _ (fun _ h => h)⟩
theorem script_pass (ho : ops[i]? = some o) (hw : Region.wanted o (yielded ops a.tmps) = false)
    (h : ∀ K : Act → Prop, (∀ a, Script P ops Q rest C a I → K a) → K (a.put o.dst undef)) : Script P ops Q ((i, false) :: rest) C a I := ⟨o, undef, ho, .inr ⟨hw, rfl⟩, h _ (fun _ h => h)⟩
theorem script_big (V : Value → (World → Prop) → Prop) (ho : ops[i]? = some o) (hw : Region.wanted o (yielded ops a.tmps) = true) (h1 : ∀ w, I w → CameV P V ((execOp a.eval o).run P w))
    (h : ∀ v I', V v I' → ∃ C', (∀ I, C' I → C I) ∧ C' I' ∧ ∀ K : Act → Prop, (∀ a, Script P ops Q rest C' a I' → K a) → K (a.put o.dst v)) : Script P ops Q ((i, true) :: rest) C a I :=
  ⟨o, V, ho, .inl ⟨hw, h1⟩, fun v I' hv => by obtain ⟨C', h2, h3, h4⟩ := h v I' hv; exact ⟨C', h2, h3, h4 _ (fun _ h => h)⟩⟩
end

/-- Invariants that new memory leaves be, and under which B holds. -/
def Fam (B : World → Prop) (I : World → Prop) : Prop := (∀ w w', I w → Below w.heap.size w w' → I w') ∧ ∀ w, I w → B w
theorem Fam.mono {B B' : World → Prop} (h : ∀ w, B' w → B w) (I : World → Prop) (hI : Fam B' I) : Fam B I := ⟨hI.1, fun w hw => h w (hI.2 w hw)⟩
theorem Fam.st {S : Nat → Prop} {w0 : World} {B : World → Prop} {L : List SP} (h : ∀ w, St S w0 w L → B w) : Fam B (fun w => St S w0 w L) := ⟨fun _ _ H hb => H.past hb, h⟩
theorem Fam.call {P : Program} {B I : World → Prop} {w : World} {fid : Nat} {args : Array Value} {p : Ending → Prop} (hI : Fam B I) (h : I w) (hc : Calls P fid args w fun e w2 => p e ∧ Below w.heap.size w w2) :
    Calls P fid args w fun e w2 => p e ∧ I w2 := hc.mono fun _ _ ⟨h1, h2⟩ => ⟨h1, hI.1 _ _ h h2⟩
theorem Fam.call0 {P : Program} {I : World → Prop} {w : World} {fid : Nat} {args : Array Value} {p : Ending → Prop} (h : I w) (hc : Calls P fid args w fun e w2 => p e ∧ w2 = w) :
    Calls P fid args w fun e w2 => p e ∧ I w2 := hc.mono fun _ _ ⟨h1, h2⟩ => ⟨h1, h2 ▸ h⟩

theorem hide_rel (R : Value → (World → Prop) → Prop) : ∃ V : Value → (World → Prop) → Prop, Hid (∀ v I', V v I' ↔ R v I') := ⟨R, Lib.hid fun _ _ => Iff.rfl⟩

attribute [go_sem] cameV_value cameV_skip cameV_enter
end Go.Proofs.YtiglgfonhdfpmaaGreat

/- A clock as plain data, and the walks of New, Good, See, Last, Tide. No condition but that numbers are such. -/
set_option linter.unusedVariables false
set_option linter.unusedSimpArgs false
namespace Go.Proofs.YtiglgfonhdfpmaaGreat
open Go.RowKit

structure Clk where
  slack : Int
  step : Int
  top : Int
  last : Int
def timeOk (t : Int) : Bool := decide (0 ≤ t) && decide (t ≤ 1099511627776)
/-- A time is seen: the mark and whether there is one. -/
def Clk.see (c : Clk) (t : Int) : Clk × Int × Bool :=
  if timeOk t = false then (c, 0, false)
  else if max c.top t - c.slack < 0 ∨ (0 ≤ c.last ∧ max c.top t - c.slack < c.last + c.step) then ({ c with top := max c.top t }, 0, false)
  else ({ c with top := max c.top t, last := max c.top t - c.slack }, max c.top t - c.slack, true)
def Clk.ok (c : Clk) : Prop := (0 ≤ c.slack ∧ c.slack ≤ 1073741824) ∧ (1 ≤ c.step ∧ c.step ≤ 1073741824) ∧ (-1 ≤ c.top ∧ c.top ≤ 1099511627776) ∧ (-1 ≤ c.last ∧ c.last ≤ 1099511627776)
end Go.Proofs.YtiglgfonhdfpmaaGreat
