/- An array by value into the midst of a block. Laws over any program. -/
import Derived.Test.YtoffcoegghigoaaSep
import Derived.Test.YtoffcoegghigoaaArr
import Derived.Laws.CopyOwn
import Derived.Deep.MidRow
namespace Go.Proofs.Ytoffcoegghigoaa
open Go.RowKit

def mayCells (w : World) (b o n : Nat) : Bool := (List.range n).all fun j => (w.cell? ⟨b, o + j, none⟩).isSome && !(w.frozen? ⟨b, o + j, none⟩)
@[go_sem] theorem mayCells_drew (w : World) (b o n : Nat) : mayCells w.drew b o n = mayCells w b o n := rfl
theorem mayCells_there {w : World} {b o n : Nat} (h : mayCells w b o n = true) : w.there b o n := fun j hj => by
  have := List.all_eq_true.1 h j (by simpa using hj)
  simpa using this
theorem mayCells_blk {w : World} {b o n : Nat} {cs : Array Value} {t : TypeId} (h : w.heap[b]? = some (.cells cs t (0, 0))) (hn : o + n ≤ cs.size) : mayCells w b o n = true := by
  refine List.all_eq_true.2 fun j hj => ?_
  have hj' : j < n := by simpa using hj
  rw [cell_blk h, free_blk h, Array.getElem?_eq_getElem (by omega)]
  rfl
theorem run_store_mid {P : Program} {w : World} {a : Act} {dst : Option Tmp} {ty' : TypeId} {pos : String} {after : Array Edge} {g : Option (Nat × Bool)} {t : TypeId} {x y : Operand} {n : Nat}
    (hi : (P.info? t).map (·.size) = some n) (hp : plainPtr (a.eval x) = true) (hr : mayCells w (blockOf (a.eval x)) (placeOf (a.eval x)) n = true) (hv : isAggV (a.eval y) = true) (hs : (aggOf (a.eval y)).size = n) (h1 : allOne (aggOf (a.eval y)) = true) :
    (execOp a.eval ⟨dst, .store t x y, ty', pos, after, g⟩).run P w = .ok .skip (w.setCells (blockOf (a.eval x)) (placeOf (a.eval x)) (aggOf (a.eval y)).toList) := by
  cases hx : a.eval x with
  | pointer q =>
    cases q with
    | none => rw [hx] at hp; cases hp
    | some ad =>
      obtain ⟨b, o, sp⟩ := ad
      rw [hx] at hp hr
      obtain rfl : sp = none := by simpa [plainPtr] using hp
      cases hy : a.eval y with
      | agg cells =>
        rw [hy] at hs h1
        rw [aggOf_lit] at hs h1
        have := run_storeAt_mid (P := P) w b o t cells (by rw [hs]; exact mayCells_there hr) (by rw [hi, hs]) h1
        unfold execOp
        simp only [hx, hy, Sem.run_bind, this, Result.andThen_ok]
        rfl
      | _ => rw [hy] at hv; cases hv
  | _ => rw [hx] at hp; cases hp
theorem splice_cons (cs : List Value) (o : Nat) (v : Value) (r : List Value) (h : o < cs.length) : splice (cs.set o v) (o + 1) r = splice cs o (v :: r) := by
  unfold splice
  rw [List.set_eq_take_append_cons_drop, if_pos h]
  have e1 : (cs.take o).length = o := by rw [List.length_take]; omega
  rw [List.take_append, List.drop_append, e1, List.take_of_length_le (l := cs.take o) (by omega), show o + 1 - o = 1 by omega]
  rw [List.take_succ_cons, List.take_zero, List.drop_of_length_le (l := cs.take o) (by omega), show o + 1 + r.length - o = r.length + 1 by omega, List.drop_succ_cons, List.drop_drop, List.length_cons]
  simp only [List.append_assoc, List.cons_append, List.nil_append]
  rw [show o + 1 + r.length = o + (r.length + 1) by omega]
theorem St.setCells {S : Nat → Prop} {w0 : World} (i : Nat) {b : Nat} {t : TypeId} : ∀ (vs : List Value) (o : Nat) (cs : List Value) (w : World) (l : List SP), St S w0 w l → l[i]? = some (Blk b cs.toArray t) → o + vs.length ≤ cs.length → St S w0 (w.setCells b o vs) (l.set i (Blk b (splice cs o vs).toArray t))
  | [], o, cs, w, l, H, hi, _ => by
    have e : splice cs o [] = cs := by simp [splice]
    rw [e]
    have hs : l.set i (Blk b cs.toArray t) = l := by
      refine List.ext_getElem? fun j => ?_
      rw [List.getElem?_set]
      split
      · rename_i h
        subst h
        rw [if_pos (List.getElem?_eq_some_iff.1 hi).1, hi]
      · rfl
    rw [hs]
    exact H
  | v :: r, o, cs, w, l, H, hi, hle => by
    simp only [List.length_cons] at hle
    have h := H.set i hi o v
    have hlt := (List.getElem?_eq_some_iff.1 hi).1
    have e : (cs.toArray.setIfInBounds o v) = (cs.set o v).toArray := by simp
    rw [e] at h
    have h2 := St.setCells i r (o + 1) (cs.set o v) _ _ h (by rw [List.getElem?_set_self hlt]) (by rw [List.length_set]; omega)
    rw [List.set_set, splice_cons _ _ _ _ (by omega)] at h2
    exact h2

end Go.Proofs.Ytoffcoegghigoaa
