/- A store as plain data: blocks that last, writes that wait, reads, calls; and its cells in memory. Plain laws, no program in sight. -/
import Derived.Test.YtoffcoegghigoaaSep
import Derived.Laws.CopyOwn
import Derived.Deep.MidRow
namespace Go.Proofs.Ytoffcoegghigoaa
open Go.RowKit

/-- A byte in its cell. -/
def bv (b : UInt8) : Value := .int .u8 (b.toNat : Int)
def bvs (l : List UInt8) : List Value := l.map bv
theorem length_bvs (l : List UInt8) : (bvs l).length = l.length := by simp [bvs]
theorem one_bv (b : UInt8) : (bv b).oneCell' = true := rfl
theorem one_bvs {l : List UInt8} : ∀ u ∈ bvs l, u.oneCell' = true := by
  intro u hu
  simp only [bvs, List.mem_map] at hu
  obtain ⟨b, _, rfl⟩ := hu
  rfl
theorem bvs_append (a b : List UInt8) : bvs (a ++ b) = bvs a ++ bvs b := by simp [bvs]
theorem bvs_take (n : Nat) (a : List UInt8) : bvs (a.take n) = (bvs a).take n := by simp [bvs]
theorem bvs_drop (n : Nat) (a : List UInt8) : bvs (a.drop n) = (bvs a).drop n := by simp [bvs]

/-- Lists of 128 each, one behind the other. -/
def lastCells (l : List (List UInt8)) : List Value := (l.map bvs).flatten
def intCells (l : List Int) : List Value := l.map (Value.int .i64)
def waitCell (x : Int × List UInt8) : List Value := .int .i64 x.1 :: bvs x.2
def waitCells (l : List (Int × List UInt8)) : List Value := (l.map waitCell).flatten

theorem flat_len {α : Type} {k : Nat} : ∀ {l : List (List α)}, (∀ x ∈ l, x.length = k) → l.flatten.length = l.length * k
  | [], _ => by simp
  | x :: l, h => by
    have := flat_len (l := l) (fun y hy => h y (by simp [hy]))
    simp only [List.flatten_cons, List.length_append, this, h x (by simp), List.length_cons, Nat.add_mul]; omega
theorem flat_take {α : Type} {k : Nat} : ∀ {l : List (List α)} (_ : ∀ x ∈ l, x.length = k) (i : Nat), (l.take i).flatten = l.flatten.take (i * k)
  | [], _, i => by simp
  | x :: l, h, 0 => by simp
  | x :: l, h, i + 1 => by
    have hx := h x (by simp)
    rw [List.take_succ_cons, List.flatten_cons, List.flatten_cons, flat_take (fun y hy => h y (by simp [hy])) i, List.take_append, List.take_of_length_le (l := x) (by rw [hx, Nat.add_mul]; omega)]
    congr 2
    rw [hx, Nat.add_mul]; omega
theorem flat_drop {α : Type} {k : Nat} : ∀ {l : List (List α)} (_ : ∀ x ∈ l, x.length = k) (i : Nat), (l.drop i).flatten = l.flatten.drop (i * k)
  | [], _, i => by simp
  | x :: l, h, 0 => by simp
  | x :: l, h, i + 1 => by
    have hx := h x (by simp)
    rw [List.drop_succ_cons, List.flatten_cons, flat_drop (fun y hy => h y (by simp [hy])) i, List.drop_append, List.drop_of_length_le (l := x) (by rw [hx, Nat.add_mul]; omega), List.nil_append]
    congr 1
    rw [hx, Nat.add_mul]; omega
/-- The i-th of them. -/
theorem flat_at {α : Type} {k : Nat} {l : List (List α)} (h : ∀ x ∈ l, x.length = k) {i : Nat} {x : List α} (hi : l[i]? = some x) : (l.flatten.drop (i * k)).take k = x := by
  have hlt := (List.getElem?_eq_some_iff.1 hi).1
  have hx := h x (List.mem_of_getElem? hi)
  rw [← flat_drop h, List.drop_eq_getElem_cons hlt, List.flatten_cons]
  have : l[i] = x := (List.getElem?_eq_some_iff.1 hi).2
  rw [this, List.take_append_of_le_length (by omega), List.take_of_length_le (by omega)]
theorem flat_get {α : Type} {k : Nat} {l : List (List α)} (h : ∀ x ∈ l, x.length = k) {i j : Nat} {x : List α} (hi : l[i]? = some x) (hj : j < k) : l.flatten[i * k + j]? = x[j]? := by
  have := flat_at h hi
  rw [← this, List.getElem?_take, if_pos hj, List.getElem?_drop]
/-- The first cells of one of them are laid anew. -/
theorem flat_splice {α : Type} {k : Nat} {l : List (List α)} (h : ∀ x ∈ l, x.length = k) {i : Nat} {x : List α} (hi : l[i]? = some x) (y : List α) (hy : y.length ≤ k) :
    splice l.flatten (i * k) y = (l.set i (y ++ x.drop y.length)).flatten := by
  have hlt := (List.getElem?_eq_some_iff.1 hi).1
  have hx := h x (List.mem_of_getElem? hi)
  have e : l[i] = x := (List.getElem?_eq_some_iff.1 hi).2
  unfold splice
  rw [List.set_eq_take_append_cons_drop, if_pos hlt, List.flatten_append, List.flatten_cons, flat_take h, flat_drop h]
  congr 1
  rw [List.append_assoc]
  congr 1
  have e2 : l.flatten.drop (i * k) = x ++ l.flatten.drop ((i + 1) * k) := by
    rw [← flat_drop h, ← flat_drop h, List.drop_eq_getElem_cons hlt, List.flatten_cons, e]
  rw [← List.drop_drop, e2, List.drop_append_of_le_length (by omega)]

/-- A store as plain data. -/
structure StM where
  last : List (List UInt8)
  waits : List (Int × List UInt8)
  reads : List Int
  calls : Int

structure StM.Good (m : StM) : Prop where
  count : 1 ≤ m.last.length ∧ m.last.length ≤ 4096
  full : ∀ x ∈ m.last, x.length = 128
  reads : m.reads.length = m.last.length
  waits : ∀ x ∈ m.waits, 0 ≤ x.1 ∧ x.1 < m.last.length ∧ x.2.length = 128
  room : m.waits.length ≤ 1000000
  calls : m.calls ≤ 9223372036854775807

theorem last_full {l : List (List UInt8)} (h : ∀ x ∈ l, x.length = 128) : ∀ x ∈ l.map bvs, x.length = 128 := by
  intro x hx
  obtain ⟨y, hy, rfl⟩ := List.mem_map.1 hx
  rw [length_bvs, h y hy]
theorem wait_full {n : Int} {l : List (Int × List UInt8)} (h : ∀ x ∈ l, 0 ≤ x.1 ∧ x.1 < n ∧ x.2.length = 128) : ∀ x ∈ l.map waitCell, x.length = 129 := by
  intro x hx
  obtain ⟨y, hy, rfl⟩ := List.mem_map.1 hx
  simp [waitCell, length_bvs, (h y hy).2.2]
theorem waitCells_snoc (l : List (Int × List UInt8)) (x : Int × List UInt8) : waitCells (l ++ [x]) = waitCells l ++ waitCell x := by simp [waitCells]

def spendE (c : Int) : Int := if c = 0 then 31 else 0
def spendC (c : Int) : Int := if 0 < c then c - 1 else c

def StM.spend (m : StM) : StM := { m with calls := spendC m.calls }
def StM.inn (m : StM) (at' : Int) : Bool := decide (0 ≤ at') && decide (at' < m.last.length)
def StM.write (m : StM) (at' : Int) (b : List UInt8) : Int × StM :=
  if m.inn at' = false then (32, m) else if b.length ≠ 128 then (2, m) else if m.calls = 0 then (31, m) else (0, { m with calls := spendC m.calls, waits := m.waits ++ [(at', b)] })
/-- What a read tells: the block that lasts, and what was written last. -/
def over (at' : Int) (b : List UInt8) (l : List (Int × List UInt8)) : List UInt8 := l.foldl (fun b w => if w.1 = at' then w.2 else b) b
def StM.look (m : StM) (at' : Int) : List UInt8 := over at' (m.last.getD at'.toNat []) m.waits
def StM.read (m : StM) (at' : Int) : List UInt8 × Int × StM :=
  if m.inn at' = false then ([], 32, m) else if m.calls = 0 then ([], 31, m) else (m.look at', 0, { m with reads := m.reads.set at'.toNat (wrap64 (m.reads.getD at'.toNat 0 + 1)) })
/-- What waits is laid, as much of each as lasts. -/
def settleFrom (lasts : Nat → Nat) : Nat → List (Int × List UInt8) → List (List UInt8) → List (List UInt8)
  | _, [], l => l
  | i, w :: r, l => settleFrom lasts (i + 1) r (l.set w.1.toNat (w.2.take (lasts i) ++ (l.getD w.1.toNat []).drop (lasts i)))
def StM.settle (m : StM) (lasts : Nat → Nat) : StM := { m with last := settleFrom lasts 0 m.waits m.last, waits := [] }
def StM.sync (m : StM) : Int × StM := if m.calls = 0 then (31, m) else (0, (m.spend).settle fun _ => 128)
def cutOf (cut : Int) : Nat := if cut < 0 ∨ 128 < cut then 128 else cut.toNat
def crashLasts (keep : List Bool) (torn cut : Int) (i : Nat) : Nat := if (i : Int) = torn then cutOf cut else if keep.getD i false then 128 else 0
def StM.crash (m : StM) (keep : List Bool) (torn cut : Int) : StM := { (m.settle (crashLasts keep torn cut)) with calls := -1 }

end Go.Proofs.Ytoffcoegghigoaa
