import Derived.Test.YtiglgfonhdfpmaaGreatOs1
import Derived.Test.YtiglgfonhdfpmaaGreatOs2
import Derived.Test.YtiglgfonhdfpmaaGreatOs3
import Derived.Laws.FloatArith
import Derived.Lib.SliceRun
import Derived.ArgAppend
import Derived.Deep.CutBlock
import Derived.Lib.ItoaNum
import Derived.Lib.AtoiAll
import Derived.Lib.Split
import Derived.Lib.SplitLaws
import Derived.Lib.IndexLaws
import Derived.Lib.CountLaws
import Derived.Laws.ComplexArith
import Derived.Laws.Externs
/- The document's Take. Condition: so many windows. -/
set_option linter.unusedVariables false
set_option linter.unusedSimpArgs false
namespace Go.Proofs.YtiglgfonhdfpmaaGreat
open Go.RowKit

section
variable {P : Program} {S : Nat → Prop} {w0 w : World} {l : List SP}
/-- 'append' as an operation of a script. -/
theorem St.came_append (H : St S w0 w l) (i : Nat) {e : TypeId} {size : Nat} {v : Value} {n : Nat} {xs : List Value} (hi : l[i]? = some (Row e size v n xs))
    {o : Oper} {a : Act} (s x : Operand) (t : TypeId) (ho : o.op = .call { callee := .builtin .append, args := #[s, x], argTypes := #[t, t] }) {z : Value} {bytes : Nat} (ht : P.underlying t = some (.slice e))
    (hinfo : (P.info? e).map (fun i => (i.zero, i.size, i.bytes)) = some (some z, size, bytes)) (hzs : z.cells.size = size ∧ 0 < size ∧ 0 < bytes)
    (hs : a.eval s = v) {A : Option Addr} {c m : Nat} (news : List Value) (hx : a.eval x = .slice A m c) (hl : news.length = m * size) (hA : A = none → m = 0) (hnews : ∀ ad, A = some ad → ∀ j u, news[j]? = some u → w.cell? (ad.add j) = some u) (h1 : ∀ u ∈ news, u.oneCell' = true)
    (hbytes : (n + m) * bytes ≤ 140737488355328) {V : Value → (World → Prop) → Prop}
    (h : ∀ v' w', St S w0 w' (l.set i (Row e size v' (n + m) (xs ++ news))) → ∃ I', V v' I' ∧ I' w') : CameV P V ((execOp a.eval o).run P w) := by
  obtain ⟨v', w', hr, h2, h3⟩ := H.run_append i hi (ty := o.type) (c := c) ht hinfo hzs news hl hA hnews h1 hbytes
  unfold execOp
  simp only [ho, resolve, invoke, builtin, Sem.run_bind, Sem.run_pure, Result.andThen_ok, List.map_toArray, List.map_cons, List.map_nil, hs, hx, hr]
  exact h v' w' h2
end

end Go.Proofs.YtiglgfonhdfpmaaGreat

/- law28's first. -/
set_option linter.unusedVariables false
set_option linter.unusedSimpArgs false
namespace Go.Proofs.YtiglgfonhdfpmaaGreat
open Go.RowKit

theorem itms_blk {w : World} {b : Nat} {t : TypeId} {l : List Itm} (hb : w.heap[b]? = some (.cells (l.map fun x => (itmC x).toList).flatten.toArray t (0, 0))) (hf : ∀ x ∈ l, x.fits) : ItmsRO w (.slice (some ⟨b, 0, none⟩) l.length l.length) l := by
  refine ⟨_, _, rfl, Nat.le_refl _, hf, fun _ => ⟨b, 0, rfl, blk_lt hb, fun i x hi j z hj => ?_⟩⟩
  show w.cell? ⟨b, 0 + i * 4 + j, none⟩ = some z
  rw [Nat.zero_add]
  refine cell_blk' hb ?_
  rw [List.getElem?_toArray]
  exact itms_get hi hj
end Go.Proofs.YtiglgfonhdfpmaaGreat

/- Whole numbers as floats of 64 bits: how they are told, summed, ordered, and made whole again. Plain laws, no program in sight. -/
set_option linter.unusedVariables false
set_option linter.unusedSimpArgs false
namespace Go.Proofs.YtiglgfonhdfpmaaGreat
open Go

/-- The bits of a whole number. -/
def ib (n : Int) : Nat := FloatKind.f64.encode (.number (decide (n < 0)) n.natAbs 0)
theorem log2_up {m : Nat} (h : m ≠ 0) (e : Nat) : (m * 2 ^ e).log2 = m.log2 + e := by
  have hm : m * 2 ^ e ≠ 0 := Nat.mul_ne_zero h (Nat.pos_iff_ne_zero.1 (Nat.two_pow_pos e))
  have h1 : 2 ^ m.log2 ≤ m := Nat.log2_self_le h
  have h2 : m < 2 ^ (m.log2 + 1) := Nat.lt_log2_self
  have a : m.log2 + e ≤ (m * 2 ^ e).log2 := (Nat.le_log2 hm).2 (by rw [Nat.pow_add]; exact Nat.mul_le_mul_right _ h1)
  have b : (m * 2 ^ e).log2 < m.log2 + e + 1 := (Nat.log2_lt hm).2 (by
    rw [show m.log2 + e + 1 = (m.log2 + 1) + e by omega, Nat.pow_add]
    exact Nat.mul_lt_mul_of_pos_right h2 (Nat.two_pow_pos e))
  omega
theorem cut_none (way : Ieee.Toward) (neg : Bool) (n : Nat) : way.cut neg n 0 = n := by
  unfold Ieee.Toward.cut
  have h0 : min 0 (n.log2 + 2) = 0 := Nat.zero_min _
  simp only [h0, Nat.shiftLeft_zero, Nat.div_one, Nat.mod_one]
  cases way <;> simp
theorem cut_even {neg : Bool} {m D : Nat} (h : m ≠ 0) : Ieee.Toward.even.cut neg (m * 2 ^ D) D = m := by
  unfold Ieee.Toward.cut
  have h0 : min D ((m * 2 ^ D).log2 + 2) = D := Nat.min_eq_left (by rw [log2_up h]; omega)
  have hp := Nat.two_pow_pos D
  simp only [h0, Nat.shiftLeft_eq, Nat.one_mul, Nat.mul_div_cancel _ hp, Nat.mul_mod_left]
  have h1 : ¬ (2 ^ D < 2 * 0) := by omega
  have h2 : (2 ^ D == 2 * 0) = false := by simp
  simp [h2]
theorem cut_zero {neg : Bool} (m D : Nat) : Ieee.Toward.zero.cut neg (m * 2 ^ D) D = m := by
  unfold Ieee.Toward.cut
  by_cases h : m = 0
  · subst h
    simp
  · have h0 : min D ((m * 2 ^ D).log2 + 2) = D := Nat.min_eq_left (by rw [log2_up h]; omega)
    have hp := Nat.two_pow_pos D
    simp only [h0, Nat.shiftLeft_eq, Nat.one_mul, Nat.mul_div_cancel _ hp]
    simp
/-- A number's rung. -/
def rungOf (m : Nat) : Nat := (m.log2 + 1022) * 2 ^ 52 + m * 2 ^ (52 - m.log2)
theorem rung_part {m : Nat} (h : m ≠ 0) (hm : m < 2 ^ 53) : m.log2 ≤ 52 ∧ 2 ^ 52 ≤ m * 2 ^ (52 - m.log2) ∧ m * 2 ^ (52 - m.log2) < 2 ^ 53 := by
  have h1 : 2 ^ m.log2 ≤ m := Nat.log2_self_le h
  have h2 : m < 2 ^ (m.log2 + 1) := Nat.lt_log2_self
  have hl : m.log2 ≤ 52 := by
    have := (Nat.log2_lt h).2 hm
    omega
  refine ⟨hl, ?_, ?_⟩
  · calc 2 ^ 52 = 2 ^ m.log2 * 2 ^ (52 - m.log2) := by rw [← Nat.pow_add]; congr 1; omega
      _ ≤ m * 2 ^ (52 - m.log2) := Nat.mul_le_mul_right _ h1
  · calc m * 2 ^ (52 - m.log2) < 2 ^ (m.log2 + 1) * 2 ^ (52 - m.log2) := Nat.mul_lt_mul_of_pos_right h2 (Nat.two_pow_pos _)
      _ = 2 ^ 53 := by rw [← Nat.pow_add]; congr 1; omega
theorem rung_lt {m : Nat} (h : m ≠ 0) (hm : m < 2 ^ 53) : rungOf m < 2047 * 2 ^ 52 ∧ 1023 * 2 ^ 52 ≤ rungOf m := by
  obtain ⟨h1, h2, h3⟩ := rung_part h hm
  unfold rungOf
  omega
/-- What a float near a whole number is, wherever its places lie. -/
theorem write_int {neg : Bool} {m e : Nat} (hm : m < 2 ^ 53) : Ieee.double.nearest neg (m * 2 ^ e) (-(e : Int)) = if m = 0 then Ieee.double.word neg 0 else Ieee.double.word neg (rungOf m) := by
  unfold Ieee.Format.nearest
  by_cases h : m = 0
  · subst h
    simp
  · have hm0 : m * 2 ^ e ≠ 0 := Nat.mul_ne_zero h (Nat.pos_iff_ne_zero.1 (Nat.two_pow_pos e))
    obtain ⟨h1, h2, h3⟩ := rung_part h hm
    have hl : Ieee.double.leastPlace = -1074 := by decide
    have hf : Ieee.double.fractionBits = 52 := rfl
    have hb : Ieee.double.binade = 2 ^ 52 := rfl
    have hi : Ieee.double.infRung = 2047 * 2 ^ 52 := by decide
    rw [if_neg hm0, if_neg h, log2_up h, hl, hf, hb, hi]
    have elast : max (-(e : Int) + ((m.log2 + e : Nat) : Int) - (52 : Nat)) (-1074) = (m.log2 : Int) - 52 := by omega
    simp only [elast]
    have ekept : Ieee.Toward.even.cut neg ((m * 2 ^ e) <<< (-(e : Int) - ((m.log2 : Int) - 52)).toNat) (((m.log2 : Int) - 52) - -(e : Int)).toNat = m * 2 ^ (52 - m.log2) := by
      rw [Nat.shiftLeft_eq]
      rcases Nat.le_total e (52 - m.log2) with hle | hle
      · have e1 : (-(e : Int) - ((m.log2 : Int) - 52)).toNat = 52 - m.log2 - e := by omega
        have e2 : (((m.log2 : Int) - 52) - -(e : Int)).toNat = 0 := by omega
        rw [e1, e2, cut_none, Nat.mul_assoc, ← Nat.pow_add]
        congr 2
        omega
      · have e1 : (-(e : Int) - ((m.log2 : Int) - 52)).toNat = 0 := by omega
        have e2 : (((m.log2 : Int) - 52) - -(e : Int)).toNat = e - (52 - m.log2) := by omega
        rw [e1, e2, Nat.pow_zero, Nat.mul_one]
        have e3 : m * 2 ^ e = m * 2 ^ (52 - m.log2) * 2 ^ (e - (52 - m.log2)) := by
          rw [Nat.mul_assoc, ← Nat.pow_add]
          congr 2
          omega
        rw [e3]
        exact cut_even (by omega)
    rw [ekept]
    congr 1
    have e4 : ((m.log2 : Int) - 52 - -1074).toNat = m.log2 + 1022 := by omega
    rw [e4, Nat.min_eq_left]
    · rfl
    · have := rung_lt h hm
      unfold rungOf at this
      omega
/-- A datum that is a whole number. -/
def Rep (d : Ieee.Datum) (n : Int) : Prop := ∃ e : Nat, d = .number (decide (n < 0)) (n.natAbs * 2 ^ e) (-(e : Int))
theorem rep_write {d : Ieee.Datum} {n : Int} (h : Rep d n) (hn : n.natAbs < 2 ^ 53) : Ieee.double.write d = ib n := by
  obtain ⟨e, rfl⟩ := h
  show Ieee.double.nearest _ _ _ = Ieee.double.nearest _ _ _
  have h1 := write_int (neg := decide (n < 0)) (m := n.natAbs) (e := e) hn
  have h2 := write_int (neg := decide (n < 0)) (m := n.natAbs) (e := 0) hn
  rw [h1]
  simp only [Nat.pow_zero, Nat.mul_one] at h2
  exact h2.symm
theorem ib_zero : ib 0 = 0 := by decide
theorem ib_is {n : Int} (hn : n.natAbs < 2 ^ 53) (h0 : n ≠ 0) : ib n = Ieee.double.word (decide (n < 0)) (rungOf n.natAbs) := by
  have h2 := write_int (neg := decide (n < 0)) (m := n.natAbs) (e := 0) hn
  simp only [Nat.pow_zero, Nat.mul_one] at h2
  rw [if_neg (by omega)] at h2
  exact h2
theorem read_word (neg : Bool) {r : Nat} (h1 : 2 ^ 52 ≤ r) (h2 : r < 2047 * 2 ^ 52) : Ieee.double.read (Ieee.double.word neg r) = .number neg (2 ^ 52 + r % 2 ^ 52) (-1074 + ((r / 2 ^ 52 - 1 : Nat) : Int)) := by
  have hl : Ieee.double.leastPlace = -1074 := by decide
  have hb : Ieee.double.binade = 2 ^ 52 := rfl
  have hi : Ieee.double.infRung = 2047 * 2 ^ 52 := by decide
  have hs : Ieee.double.signWeight = 2 ^ 63 := rfl
  unfold Ieee.Format.read Ieee.Format.word
  rw [hl, hb, hi, hs]
  cases neg
  · simp only [Bool.false_eq_true, if_false]
    have e1 : r / 2 ^ 63 % 2 = 0 := by omega
    have e2 : r % 2 ^ 63 = r := by omega
    rw [e1, e2, if_neg (by omega), if_pos h2]
    rfl
  · simp only [if_true]
    have e1 : (2 ^ 63 + r) / 2 ^ 63 % 2 = 1 := by omega
    have e2 : (2 ^ 63 + r) % 2 ^ 63 = r := by omega
    rw [e1, e2, if_neg (by omega), if_pos h2]
    rfl
theorem rep_read {n : Int} (hn : n.natAbs < 2 ^ 53) : Rep (Ieee.double.read (ib n)) n := by
  by_cases h0 : n = 0
  · subst h0
    have h : Ieee.double.read 0 = .number false 0 (-1074) := by decide +kernel
    obtain ⟨e, he⟩ : ∃ e : Nat, e = 1074 := ⟨_, rfl⟩
    refine ⟨e, ?_⟩
    rw [ib_zero, h, show (0 : Int).natAbs = 0 from rfl, Nat.zero_mul, he]
    rfl
  · have h : n.natAbs ≠ 0 := by omega
    obtain ⟨h1, h2, h3⟩ := rung_part h hn
    obtain ⟨h4, h5⟩ := rung_lt h hn
    rw [ib_is hn h0, read_word _ (by omega) h4]
    refine ⟨52 - n.natAbs.log2, ?_⟩
    have e1 : rungOf n.natAbs % 2 ^ 52 = n.natAbs * 2 ^ (52 - n.natAbs.log2) - 2 ^ 52 := by
      unfold rungOf
      omega
    have e2 : rungOf n.natAbs / 2 ^ 52 = n.natAbs.log2 + 1023 := by
      unfold rungOf
      omega
    have e3 : 2 ^ 52 + (n.natAbs * 2 ^ (52 - n.natAbs.log2) - 2 ^ 52) = n.natAbs * 2 ^ (52 - n.natAbs.log2) := by omega
    have e4 : -1074 + ((n.natAbs.log2 + 1023 - 1 : Nat) : Int) = -((52 - n.natAbs.log2 : Nat) : Int) := by omega
    rw [e1, e2, e3, e4]
theorem signed_rep (n : Int) {e E : Nat} (h : e ≤ E) : Ieee.signed (decide (n < 0)) (n.natAbs * 2 ^ e) (E - e) = n * ((2 ^ E : Nat) : Int) := by
  unfold Ieee.signed
  rw [Nat.shiftLeft_eq, Nat.mul_assoc, ← Nat.pow_add, show e + (E - e) = E by omega]
  by_cases hn : n < 0
  · rw [if_pos (by simpa using hn), Int.natCast_mul, show ((n.natAbs : Nat) : Int) = -n by omega]
    rw [Int.neg_mul, Int.neg_neg]
  · rw [if_neg (by simpa using hn), Int.natCast_mul, show ((n.natAbs : Nat) : Int) = n by omega]
theorem base_min (i j : Nat) : min (-(i : Int)) (-(j : Int)) = -((max i j : Nat) : Int) := by omega
theorem rep_sum {x y : Ieee.Datum} {a b : Int} (hx : Rep x a) (hy : Rep y b) : ∃ z, x.sum y = some z ∧ Rep z (a + b) := by
  obtain ⟨i, rfl⟩ := hx
  obtain ⟨j, rfl⟩ := hy
  refine ⟨.number (decide (a + b < 0)) ((a + b).natAbs * 2 ^ (max i j)) (-((max i j : Nat) : Int)), ?_, max i j, rfl⟩
  unfold Ieee.Datum.sum
  simp only [base_min]
  rw [show (-(i : Int) - -((max i j : Nat) : Int)).toNat = max i j - i by omega, show (-(j : Int) - -((max i j : Nat) : Int)).toNat = max i j - j by omega]
  rw [signed_rep a (Nat.le_max_left i j), signed_rep b (Nat.le_max_right i j), ← Int.add_mul]
  have hp : (0 : Int) < ((2 ^ (max i j) : Nat) : Int) := by have := Nat.two_pow_pos (max i j); omega
  congr 2
  · by_cases h : a + b = 0
    · rw [h]
      simp
      omega
    · have hne : (a + b) * ((2 ^ (max i j) : Nat) : Int) ≠ 0 := Int.mul_ne_zero h (by omega)
      rw [if_neg hne]
      by_cases hn : a + b < 0
      · have := Int.mul_neg_of_neg_of_pos hn hp
        rw [decide_eq_true hn, decide_eq_true this]
      · have := Int.mul_nonneg (show 0 ≤ a + b by omega) (show 0 ≤ ((2 ^ (max i j) : Nat) : Int) by omega)
        rw [decide_eq_false hn, decide_eq_false (by omega)]
  · rw [Int.natAbs_mul]
    rfl
theorem add_ib {a b : Int} (ha : a.natAbs < 2 ^ 52) (hb : b.natAbs < 2 ^ 52) : floatBits .add .f64 (ib a) (ib b) = some (ib (a + b)) := by
  show Ieee.double.add (ib a) (ib b) = _
  unfold Ieee.Format.add
  obtain ⟨z, h1, h2⟩ := rep_sum (rep_read (n := a) (by omega)) (rep_read (n := b) (by omega))
  rw [h1]
  show some _ = _
  rw [rep_write h2 (by omega)]
theorem order_ib {a b : Int} (ha : a.natAbs < 2 ^ 53) (hb : b.natAbs < 2 ^ 53) : Ieee.double.order (ib a) (ib b) = some (compare a b) := by
  obtain ⟨i, h1⟩ := rep_read ha
  obtain ⟨j, h2⟩ := rep_read hb
  unfold Ieee.Format.order
  rw [h1, h2]
  unfold Ieee.Datum.order
  simp only [base_min]
  rw [show (-(i : Int) - -((max i j : Nat) : Int)).toNat = max i j - i by omega, show (-(j : Int) - -((max i j : Nat) : Int)).toNat = max i j - j by omega]
  rw [signed_rep a (Nat.le_max_left i j), signed_rep b (Nat.le_max_right i j)]
  have hp : (0 : Int) < ((2 ^ (max i j) : Nat) : Int) := by have := Nat.two_pow_pos (max i j); omega
  obtain ⟨K, hK⟩ : ∃ K : Int, ((2 ^ (max i j) : Nat) : Int) = K := ⟨_, rfl⟩
  rw [hK] at hp ⊢
  congr 1
  show (if a * K < b * K then Ordering.lt else if a * K = b * K then Ordering.eq else Ordering.gt) = (if a < b then Ordering.lt else if a = b then Ordering.eq else Ordering.gt)
  have e1 : a * K < b * K ↔ a < b := Int.mul_lt_mul_right hp
  have e2 : a * K = b * K ↔ a = b := ⟨fun h => Int.eq_of_mul_eq_mul_right (by omega) h, fun h => by rw [h]⟩
  simp only [e1, e2]
theorem toInt_ib {a : Int} (ha : a.natAbs < 2 ^ 53) : (Ieee.double.read (ib a)).toInt .zero = some a := by
  obtain ⟨e, h1⟩ := rep_read ha
  rw [h1]
  unfold Ieee.Datum.toInt Ieee.Datum.integral
  simp only
  rw [show (-(e : Int)).toNat = 0 by omega, Nat.shiftLeft_zero, show (- -(e : Int)).toNat = e by omega, cut_zero]
  have := signed_rep a (e := 0) (E := 0) (Nat.le_refl _)
  simp only [Nat.pow_zero, Nat.mul_one, Nat.sub_zero] at this
  rw [this]
  simp

end Go.Proofs.YtiglgfonhdfpmaaGreat

/- Records in rows, of any kind: laws. An element's cells are told by a function; all have as many. -/
set_option linter.unusedVariables false
set_option linter.unusedSimpArgs false
namespace Go.Proofs.YtiglgfonhdfpmaaGreat
open Go.RowKit

/-- A kind of records: its cells. -/
structure Enc (α : Type) where
  cells : α → List Value
  k : Nat
  len : ∀ x, (cells x).length = k
  pos : 0 < k
  one : ∀ x, ∀ v ∈ cells x, v.oneCell' = true
section
variable {α : Type} (E : Enc α)
def Enc.all (l : List α) : List Value := (l.map E.cells).flatten
theorem Enc.all_app (l m : List α) : E.all (l ++ m) = E.all l ++ E.all m := by simp [Enc.all]
theorem Enc.all_one (x : α) : E.all [x] = E.cells x := by simp [Enc.all]
theorem Enc.all_cons (x : α) (l : List α) : E.all (x :: l) = E.cells x ++ E.all l := by simp [Enc.all]
theorem Enc.full (l : List α) : ∀ y ∈ l.map E.cells, y.length = E.k := by
  intro y hy
  obtain ⟨x, _, rfl⟩ := List.mem_map.1 hy
  exact E.len x
theorem Enc.all_len (l : List α) : (E.all l).length = l.length * E.k := by
  have := flat_len (E.full l)
  simpa [Enc.all] using this
theorem Enc.get {l : List α} {i j : Nat} {x : α} {v : Value} (hi : l[i]? = some x) (hj : (E.cells x)[j]? = some v) : (E.all l)[i * E.k + j]? = some v := by
  have hi2 : (l.map E.cells)[i]? = some (E.cells x) := by rw [List.getElem?_map, hi]; rfl
  have hj4 : j < E.k := by rw [← E.len x]; exact (List.getElem?_eq_some_iff.1 hj).1
  exact (flat_get (E.full l) hi2 hj4).trans hj
theorem Enc.all_one1 (l : List α) : ∀ u ∈ E.all l, u.oneCell' = true := by
  intro u hu
  obtain ⟨y, hy, hu⟩ := List.mem_flatten.1 hu
  obtain ⟨x, _, rfl⟩ := List.mem_map.1 hy
  exact E.one x u hu
theorem Enc.set {l : List α} (R : List Value) {i : Nat} (x : α) (hi : i < l.length) : splice (E.all l ++ R) (i * E.k) (E.cells x) = E.all (l.set i x) ++ R := by
  have h1 := E.all_len l
  have hp := E.pos
  have hx := E.len x
  have hik : i * E.k + E.k ≤ l.length * E.k := by rw [← Nat.succ_mul]; exact Nat.mul_le_mul_right _ hi
  have h2 := flat_splice (E.full l) (i := i) (x := E.cells l[i]) (by rw [List.getElem?_map, List.getElem?_eq_getElem hi]; rfl) (E.cells x) (by rw [hx]; exact Nat.le_refl _)
  have e : (l.set i x).map E.cells = (l.map E.cells).set i (E.cells x ++ (E.cells l[i]).drop (E.cells x).length) := by
    rw [List.map_set, List.drop_of_length_le (by rw [E.len, E.len]; exact Nat.le_refl _), List.append_nil]
  unfold Enc.all at h1 ⊢
  rw [e, ← h2]
  unfold splice
  rw [List.append_assoc, List.append_assoc, List.take_append_of_le_length (by omega), List.drop_append_of_le_length (by omega)]

/-- Records that can be read. -/
def Enc.RO (w : World) (v : Value) (l : List α) : Prop :=
  ∃ ad cap, v = .slice ad l.length cap ∧ l.length ≤ cap ∧ (l ≠ [] → ∃ b o, ad = some ⟨b, o, none⟩ ∧ b < w.heap.size ∧ ∀ i x, l[i]? = some x → w.rangeAt b (o + i * E.k) (E.cells x))
theorem Enc.RO.later {E : Enc α} {w w' : World} {v : Value} {l : List α} (hv : E.RO w v l) (hk : Kept (fun _ => False) w w') : E.RO w' v l := by
  obtain ⟨ad, cap, e1, e2, e4⟩ := hv
  refine ⟨ad, cap, e1, e2, fun hl => ?_⟩
  obtain ⟨b, o, g1, g2, g4⟩ := e4 hl
  exact ⟨b, o, g1, Nat.lt_of_lt_of_le g2 hk.size, fun i x hi j v hj => (World.cell?_of_block (w := w) (hk.block b g2 id)).trans (g4 i x hi j v hj)⟩
theorem Enc.own {w : World} {t : TypeId} {v : Value} {n : Nat} {l : List α} (h : w.ownsRow 0 t E.k v n (E.all l)) (hn : n = l.length) : E.RO w v l := by
  subst hn
  rcases own_shape h with ⟨rfl, h0⟩ | ⟨g, cap, rfl, hc, hg⟩
  · obtain rfl : l = [] := List.eq_nil_of_length_eq_zero h0
    exact ⟨none, 0, rfl, Nat.le_refl _, fun h => absurd rfl h⟩
  · refine ⟨_, cap, rfl, hc, fun _ => ⟨g, 0, rfl, hg, fun i x hi j z hj => ?_⟩⟩
    show w.cell? ⟨g, 0 + i * E.k + j, none⟩ = some z
    rw [Nat.zero_add]
    exact own_cell h (E.get hi hj)
theorem Enc.RO.nil {E : Enc α} (w : World) : E.RO w (.slice none 0 0) [] := ⟨none, 0, rfl, Nat.le_refl _, fun h => absurd rfl h⟩
/-- All cells of readable records, one by one. -/
theorem Enc.RO.cells {E : Enc α} {w : World} {v : Value} {l : List α} (hv : E.RO w v l) : ∃ ad cap, v = .slice ad l.length cap ∧ (ad = none → l = []) ∧ ∀ p, ad = some p → ∀ j u, (E.all l)[j]? = some u → w.cell? (p.add j) = some u := by
  obtain ⟨ad, cap, rfl, _, h⟩ := hv
  refine ⟨ad, cap, rfl, fun e => ?_, fun p hp j u hj => ?_⟩
  · refine Classical.byContradiction fun hl => ?_
    obtain ⟨b, o, e2, _⟩ := h hl
    rw [e] at e2
    cases e2
  · by_cases hl : l = []
    · subst hl; simp [Enc.all] at hj
    · obtain ⟨b, o, e2, _, h4⟩ := h hl
      rw [hp] at e2
      obtain rfl := Option.some.inj e2
      have hlt := (List.getElem?_eq_some_iff.1 hj).1
      rw [E.all_len] at hlt
      have hp := E.pos
      have hi : j / E.k < l.length := (Nat.div_lt_iff_lt_mul hp).2 hlt
      obtain ⟨x, hx⟩ : ∃ x, l[j / E.k]? = some x := ⟨_, List.getElem?_eq_getElem hi⟩
      have hm : j % E.k < (E.cells x).length := by rw [E.len]; exact Nat.mod_lt _ hp
      have hj2 := E.get hx (List.getElem?_eq_getElem hm)
      have hdm : j / E.k * E.k + j % E.k = j := Nat.div_add_mod' j E.k
      rw [hdm, hj] at hj2
      rw [Addr.add_lit]
      have := h4 (j / E.k) x hx (j % E.k) u ((List.getElem?_eq_getElem hm).trans hj2.symm)
      rw [Nat.add_assoc, hdm] at this
      exact this
theorem Enc.at {E : Enc α} {w w' : World} {b o i j : Nat} {x : α} {v : Value} (h : w.rangeAt b (o + i * E.k) (E.cells x)) (hb : w'.heap[b]? = w.heap[b]?) (hj : (E.cells x)[j]? = some v) : w'.cell? ⟨b, o + i * E.k + j, none⟩ = some v := (World.cell?_of_block hb).trans (h j v hj)
end

end Go.Proofs.YtiglgfonhdfpmaaGreat

/- A region that draws its order, by a plan: small operations first, a call alone, or two that may come in either order. Laws over any program. -/
set_option linter.unusedVariables false
set_option linter.unusedSimpArgs false
namespace Go.Proofs.YtiglgfonhdfpmaaGreat
open Go.RowKit

inductive Plan where
  | nil
  | small (i : Nat) (rest : Plan)
  | alone (i : Nat) (rest : Plan)
  | fork (i j : Nat) (pi pj : Plan)
def Plan.count : Plan → Nat
  | .nil => 0
  | .small _ r => r.count + 1
  | .alone _ r => r.count + 1
  | .fork _ _ a _ => a.count + 1
section
variable {P : Program} {ops : Array Oper} {md : Region.Mode}
def PlanS (P : Program) (ops : Array Oper) (Q : Act → World → Prop) : Plan → ((World → Prop) → Prop) → Act → (World → Prop) → Prop
  | .nil, _, a, I => ∀ w, I w → Q a w
  | .small i rest, C, a, I => ∃ o v, ops[i]? = some o ∧ SmallOp P ops C o v a ∧ PlanS P ops Q rest C (a.put o.dst v) I
  | .alone i rest, C, a, I => ∃ o V, ops[i]? = some o ∧ StepTo P ops I o V a ∧ ∀ v I', V v I' → ∃ C', (∀ I, C' I → C I) ∧ C' I' ∧ PlanS P ops Q rest C' (a.put o.dst v) I'
  | .fork i j pi pj, C, a, I => (∃ o V, ops[i]? = some o ∧ StepTo P ops I o V a ∧ ∀ v I', V v I' → ∃ C', (∀ I, C' I → C I) ∧ C' I' ∧ PlanS P ops Q pi C' (a.put o.dst v) I') ∧
      ∃ o V, ops[j]? = some o ∧ StepTo P ops I o V a ∧ ∀ v I', V v I' → ∃ C', (∀ I, C' I → C I) ∧ C' I' ∧ PlanS P ops Q pj C' (a.put o.dst v) I'
def planB (md : Region.Mode) (ops : Array Oper) : Plan → Array Bool → Bool
  | .nil, listed => (Region.ready md ops listed).isEmpty
  | .small i rest, listed => (Region.ready md ops listed).contains i && Region.free md ops listed i && planB md ops rest (listed.setIfInBounds i true)
  | .alone i rest, listed => decide (Region.ready md ops listed = [i]) && planB md ops rest (listed.setIfInBounds i true)
  | .fork i j pi pj, listed => decide (Region.ready md ops listed = [i, j]) && decide (pi.count = pj.count) && planB md ops pi (listed.setIfInBounds i true) && planB md ops pj (listed.setIfInBounds j true)
theorem PlanS.any {Q : Act → World → Prop} (hs : Region.noSelect ops = true) : ∀ (p : Plan) (C : (World → Prop) → Prop) (listed : Array Bool) (a : Act) (I : World → Prop), C I → planB md ops p listed = true → PlanS P ops Q p C a I → AnyI P md ops Q C p.count listed a I
  | .nil, _, _, _, _, _, hB, h => ⟨by simpa [planB] using hB, h⟩
  | .small i l, C, listed, a, I, hC, hB, ⟨o, v, h0, hy, h⟩ => by
    simp only [planB, Bool.and_eq_true] at hB
    obtain ⟨⟨hr, hf⟩, hB'⟩ := hB
    exact AnyI.first h0 (Region.noSelect_spec hs) l.count listed a I hC (Region.free_spec h0 hf) (by simpa using hr) hy (PlanS.any hs l C _ _ I hC hB' h)
  | .alone i l, C, listed, a, I, hC, hB, ⟨o, V, h0, hy, h⟩ => by
    simp only [planB, Bool.and_eq_true, decide_eq_true_eq] at hB
    obtain ⟨hr, hB'⟩ := hB
    refine ⟨fun h => (by rw [hr] at h; cases h), fun j hj => ?_⟩
    rw [hr] at hj
    obtain rfl : j = i := by simpa using hj
    refine ⟨o, V, h0, hy, fun v I' hv => ?_⟩
    obtain ⟨C', h1, h2, h3⟩ := h v I' hv
    exact ⟨h1 _ h2, AnyI.mono h1 (PlanS.any hs l C' _ _ I' h2 hB' h3)⟩
  | .fork i j pi pj, C, listed, a, I, hC, hB, ⟨hi, hj⟩ => by
    simp only [planB, Bool.and_eq_true, decide_eq_true_eq] at hB
    obtain ⟨⟨⟨hr, hcnt⟩, hBi⟩, hBj⟩ := hB
    refine ⟨fun h => (by rw [hr] at h; cases h), fun k hk => ?_⟩
    rw [hr] at hk
    rcases (show k = i ∨ k = j by simpa using hk) with rfl | rfl
    · obtain ⟨o, V, h0, hy, h⟩ := hi
      refine ⟨o, V, h0, hy, fun v I' hv => ?_⟩
      obtain ⟨C', h1, h2, h3⟩ := h v I' hv
      exact ⟨h1 _ h2, AnyI.mono h1 (PlanS.any hs pi C' _ _ I' h2 hBi h3)⟩
    · obtain ⟨o, V, h0, hy, h⟩ := hj
      refine ⟨o, V, h0, hy, fun v I' hv => ?_⟩
      obtain ⟨C', h1, h2, h3⟩ := h v I' hv
      refine ⟨h1 _ h2, AnyI.mono h1 ?_⟩
      rw [hcnt]
      exact PlanS.any hs pj C' _ _ I' h2 hBj h3

/-- A REGION THAT DRAWS, by a plan. -/
theorem wp_plan {id : Nat} {Q : Exit → Act → World → Prop} {a : Act} {w : World} {l : List Oper} (s : Plan) (C : (World → Prop) → Prop) (I : World → Prop) (hm : P.follows .mixedOrders = true) (hl : s.count = l.length) (hs : Region.noSelect l.toArray = true)
    (hB : planB .any l.toArray s (Array.replicate l.toArray.size false) = true) (h0 : I w.drew) (hC : C I) (h : PlanS P l.toArray (fun a w => Q .normal a w) s C a I) : (Code.region id l.toArray true).wp P Q a w := by
  refine wp_region_any hm ?_
  have := AnyI.any (Q' := Q) (fun _ _ h => h) _ _ _ _ _ h0 (PlanS.any hs s C _ a I hC hB h)
  rwa [hl] at this

variable {Q : Act → World → Prop} {rest pj : Plan} {C : (World → Prop) → Prop} {a : Act} {I : World → Prop} {i j : Nat} {o o' : Oper}
theorem plan_nil (h : ∀ w, I w → Q a w) : PlanS P ops Q .nil C a I := h
theorem plan_step (ho : ops[i]? = some o) (hw : Region.wanted o (yielded ops a.tmps) = true) {v : Value} (h1 : ∀ I, C I → ∀ w, I w → CameTo P I v ((execOp a.eval o).run P w))
    (h : ∀ K : Act → Prop, (∀ a, PlanS P ops Q rest C a I → K a) → K (a.put o.dst v)) : PlanS P ops Q (.small i rest) C a I := ⟨o, v, ho, .inl ⟨hw, h1⟩, h _ (fun _ h => h)⟩
theorem plan_pass (ho : ops[i]? = some o) (hw : Region.wanted o (yielded ops a.tmps) = false)
    (h : ∀ K : Act → Prop, (∀ a, PlanS P ops Q rest C a I → K a) → K (a.put o.dst undef)) : PlanS P ops Q (.small i rest) C a I := ⟨o, undef, ho, .inr ⟨hw, rfl⟩, h _ (fun _ h => h)⟩
end

end Go.Proofs.YtiglgfonhdfpmaaGreat

/- Rows that begin anywhere in their block, and lists of slices that are each of the call's own. Laws over any program. -/
set_option linter.unusedVariables false
set_option linter.unusedSimpArgs false
namespace Go.Proofs.YtiglgfonhdfpmaaGreat
open Go.RowKit

/-- A slice that owns its row, wherever in its block the row begins. -/
def Off (e : TypeId) (size : Nat) (v : Value) (n : Nat) (xs : List Value) : SP where
  on w S := xs.length = n * size ∧ ((v = .slice none 0 0 ∧ n = 0 ∧ ∀ k, ¬ S k) ∨ ∃ (g o cap : Nat) (cs : List Value), v = .slice (some ⟨g, o, none⟩) n cap ∧ n ≤ cap ∧ w.heap[g]? = some (.cells cs.toArray e (0, 0)) ∧ o + cap * size = cs.length ∧
      (∀ j u, xs[j]? = some u → cs[o + j]? = some u) ∧ cap ≤ maxLen ∧ ∀ k, S k ↔ k = g)
  loc w w' S h hs := by
    refine ⟨h.1, ?_⟩
    rcases h.2 with h | ⟨g, o, cap, cs, h1, h2, h3, h4, h5, h6, h7⟩
    · exact .inl h
    · exact .inr ⟨g, o, cap, cs, h1, h2, (hs g ((h7 g).2 rfl)).trans h3, h4, h5, h6, h7⟩
  lt w S k h hk := by
    rcases h.2 with ⟨_, _, h⟩ | ⟨g, o, cap, cs, h1, h2, h3, h4, h5, h6, h7⟩
    · exact absurd hk (h k)
    · obtain rfl := (h7 k).1 hk
      exact blk_lt h3
section
variable {S : Nat → Prop} {w0 w w' : World} {L : List SP} {e : TypeId} {size n : Nat} {v : Value} {xs : List Value}
theorem St.off_nil (h : St S w0 w L) (e : TypeId) (size : Nat) : St S w0 w (Off e size (.slice none 0 0) 0 [] :: L) :=
  ⟨h.kept, fun _ => False, ⟨by simp, .inl ⟨rfl, rfl, fun _ h => h⟩⟩, fun _ h => h.elim, h.sep.mono (fun _ _ h => ⟨h, id⟩)⟩
theorem Row.off {S1 : Nat → Prop} (h : (Row e size v n xs).on w S1) : (Off e size v n xs).on w S1 := by
  obtain ⟨h1, h2⟩ := h
  refine ⟨h1.1, ?_⟩
  rcases h1.2 with ⟨rfl, rfl⟩ | ⟨g, cap, cur, rfl, hbg, hg, hnc, hcm, hcs, htake⟩
  · exact .inl ⟨rfl, rfl, fun k hk => by have := (h2 k).1 hk; simp [Value.ownBlock] at this⟩
  · refine .inr ⟨g, 0, cap, cur.toList, rfl, hnc, by simpa using hg, by simpa using hcs.symm, fun j u hj => ?_, hcm, fun k => (h2 k).trans (by simp [Value.ownBlock, eq_comm])⟩
    rw [Nat.zero_add]
    have hlt : j < xs.length := (List.getElem?_eq_some_iff.1 hj).1
    rw [← hj, ← htake, List.getElem?_take, if_pos (by rw [← h1.1]; exact hlt)]
theorem Off.cell {S1 : Nat → Prop} {g o m cap : Nat} (h : (Off e size (.slice (some ⟨g, o, none⟩) m cap) n xs).on w S1) {j : Nat} {u : Value} (hj : xs[j]? = some u) : w.cell? ⟨g, o + j, none⟩ = some u := by
  rcases h.2 with ⟨h1, _⟩ | ⟨g', o', cap', cs, h1, h2, h3, h4, h5, _⟩
  · cases h1
  · simp only [Value.slice.injEq, Option.some.injEq, Addr.mk.injEq] at h1
    obtain ⟨⟨rfl, rfl, _⟩, _, _⟩ := h1
    rw [cell_blk h3]
    simpa using h5 j u hj
end
theorem setCells_size' (g : Nat) : ∀ (vs : List Value) (o : Nat) (w : World), (w.setCells g o vs).heap.size = w.heap.size
  | [], _, _ => rfl
  | v :: r, o, w => by show ((w.setCell _ v).setCells g (o + 1) r).heap.size = _; rw [setCells_size' g r]; simp
theorem splice_get (cs : List Value) (o : Nat) (vs : List Value) (h : o + vs.length ≤ cs.length) (j : Nat) : (splice cs o vs)[j]? = if j < o then cs[j]? else if j < o + vs.length then vs[j - o]? else cs[j]? := by
  have ht : (cs.take o).length = o := by rw [List.length_take]; omega
  unfold splice
  by_cases h1 : j < o
  · rw [if_pos h1, List.getElem?_append_left (by omega), List.getElem?_take_of_lt h1]
  · rw [if_neg h1, List.getElem?_append_right (by omega), ht]
    by_cases h2 : j < o + vs.length
    · rw [if_pos h2, List.getElem?_append_left (by omega)]
    · rw [if_neg h2, List.getElem?_append_right (by omega), List.getElem?_drop]
      congr 1
      omega
theorem splice_len (cs : List Value) (o : Nat) (vs : List Value) (h : o + vs.length ≤ cs.length) : (splice cs o vs).length = cs.length := by
  unfold splice
  simp only [List.length_append, List.length_take, List.length_drop]
  omega
section
variable {P : Program} {S : Nat → Prop} {w0 w : World} {L : List SP} {e : TypeId} {size n : Nat} {v : Value} {xs : List Value}
end

section
variable {P : Program} {S : Nat → Prop} {w0 w : World} {L : List SP} {e : TypeId} {size n : Nat} {v : Value} {xs : List Value}
end

/-- Parts by their values. -/
def Pile {β : Type} (A : Value → β → SP) (vs : List Value) (l : List β) : SP := SP.all (List.zipWith A vs l)
/-- A list of slices, each of the call's own. -/
def Stack {β : Type} (A : Value → β → SP) (e : TypeId) (iv : Value) (l : List β) : SP := SP.ex fun vs : List Value => SP.all [Off e 1 iv l.length vs, Pile A vs l]
section
variable {β : Type} {A : Value → β → SP} {S : Nat → Prop} {w0 w : World} {L : List SP} {e : TypeId} {iv : Value} {l : List β} {vs : List Value}
theorem Stack.open (H : St S w0 w (Stack A e iv l :: L)) : ∃ vs, vs.length = l.length ∧ St S w0 w (Off e 1 iv l.length vs :: Pile A vs l :: L) := by
  obtain ⟨vs, H⟩ := St.ex_iff.1 H
  have H := St.all_iff.1 H
  obtain ⟨S1, h⟩ := H.sep.get 0 rfl
  exact ⟨vs, by simpa using h.1, H⟩
theorem Stack.mk (H : St S w0 w (Off e 1 iv l.length vs :: Pile A vs l :: L)) : St S w0 w (Stack A e iv l :: L) := St.ex_iff.2 ⟨vs, St.all_iff.2 H⟩
theorem Stack.nil (H : St S w0 w L) : St S w0 w (Stack A e (.slice none 0 0) ([] : List β) :: L) := by
  refine Stack.mk (vs := []) ?_
  have : St S w0 w (Pile A [] ([] : List β) :: L) := St.all_iff.2 H
  exact this.off_nil e 1
theorem Pile.tail {v : Value} {x : β} (H : St S w0 w (Pile A (v :: vs) (x :: l) :: L)) : St S w0 w (Pile A vs l :: L) :=
  St.all_iff.2 (St.tail (St.all_iff.1 H))
theorem SP.all_at {zs : List SP} {S1 : Nat → Prop} (h : (SP.all zs).on w S1) {k : Nat} {Z : SP} (hk : zs[k]? = some Z) : ∃ S2 : Nat → Prop, Z.on w S2 ∧ ∀ j, S2 j → S1 j := by
  obtain ⟨f, f1, _⟩ := h.1.fps
  exact ⟨f k, (f1 k Z hk).1, (f1 k Z hk).2⟩
theorem Pile.at {S1 : Nat → Prop} (h : (Pile A vs l).on w S1) {k : Nat} {v : Value} {x : β} (hv : vs[k]? = some v) (hx : l[k]? = some x) : ∃ S2 : Nat → Prop, (A v x).on w S2 ∧ ∀ j, S2 j → S1 j :=
  SP.all_at h (by rw [List.getElem?_zipWith, hv, hx])
end

end Go.Proofs.YtiglgfonhdfpmaaGreat

/- A script's operation that stands alone, told in one step: what it comes to, and how the script goes on from there. Laws over any program. -/
set_option linter.unusedVariables false
set_option linter.unusedSimpArgs false
namespace Go.Proofs.YtiglgfonhdfpmaaGreat
open Go.RowKit

section
variable {P : Program} {ops : Array Oper} {Q : Act → World → Prop} {rest : List (Nat × Bool)} {C : (World → Prop) → Prop} {a : Act} {I : World → Prop} {i : Nat} {o : Oper}
theorem script_alone (ho : ops[i]? = some o) (hw : Region.wanted o (yielded ops a.tmps) = true)
    (h1 : ∀ V : Value → (World → Prop) → Prop, (∀ v I' (C' : (World → Prop) → Prop), (∀ I, C' I → C I) → C' I' → (∀ K : Act → Prop, (∀ a, Script P ops Q rest C' a I' → K a) → K (a.put o.dst v)) → V v I') → ∀ w, I w → CameV P V ((execOp a.eval o).run P w)) :
    Script P ops Q ((i, true) :: rest) C a I :=
  ⟨o, fun v I' => ∃ C' : (World → Prop) → Prop, (∀ I, C' I → C I) ∧ C' I' ∧ ∀ K : Act → Prop, (∀ a, Script P ops Q rest C' a I' → K a) → K (a.put o.dst v), ho, .inl ⟨hw, h1 _ (fun _ _ C' h2 h3 h4 => ⟨C', h2, h3, h4⟩)⟩, fun v I' hv => by obtain ⟨C', h2, h3, h4⟩ := hv; exact ⟨C', h2, h3, h4 _ (fun _ h => h)⟩⟩
theorem plan_one {rest : Plan} (ho : ops[i]? = some o) (hw : Region.wanted o (yielded ops a.tmps) = true)
    (h1 : ∀ V : Value → (World → Prop) → Prop, (∀ v I' (C' : (World → Prop) → Prop), (∀ I, C' I → C I) → C' I' → (∀ K : Act → Prop, (∀ a, PlanS P ops Q rest C' a I' → K a) → K (a.put o.dst v)) → V v I') → ∀ w, I w → CameV P V ((execOp a.eval o).run P w)) :
    PlanS P ops Q (.alone i rest) C a I :=
  ⟨o, fun v I' => ∃ C' : (World → Prop) → Prop, (∀ I, C' I → C I) ∧ C' I' ∧ ∀ K : Act → Prop, (∀ a, PlanS P ops Q rest C' a I' → K a) → K (a.put o.dst v), ho, .inl ⟨hw, h1 _ (fun _ _ C' h2 h3 h4 => ⟨C', h2, h3, h4⟩)⟩, fun v I' hv => by obtain ⟨C', h2, h3, h4⟩ := hv; exact ⟨C', h2, h3, h4 _ (fun _ h => h)⟩⟩
theorem plan_two {rest pj : Plan} {j : Nat} {o' : Oper} (ho : ops[i]? = some o) (ho' : ops[j]? = some o') (hw : Region.wanted o (yielded ops a.tmps) = true) (hw' : Region.wanted o' (yielded ops a.tmps) = true)
    (h1 : ∀ V : Value → (World → Prop) → Prop, (∀ v I' (C' : (World → Prop) → Prop), (∀ I, C' I → C I) → C' I' → (∀ K : Act → Prop, (∀ a, PlanS P ops Q rest C' a I' → K a) → K (a.put o.dst v)) → V v I') → ∀ w, I w → CameV P V ((execOp a.eval o).run P w))
    (h2 : ∀ V : Value → (World → Prop) → Prop, (∀ v I' (C' : (World → Prop) → Prop), (∀ I, C' I → C I) → C' I' → (∀ K : Act → Prop, (∀ a, PlanS P ops Q pj C' a I' → K a) → K (a.put o'.dst v)) → V v I') → ∀ w, I w → CameV P V ((execOp a.eval o').run P w)) :
    PlanS P ops Q (.fork i j rest pj) C a I :=
  ⟨⟨o, fun v I' => ∃ C' : (World → Prop) → Prop, (∀ I, C' I → C I) ∧ C' I' ∧ ∀ K : Act → Prop, (∀ a, PlanS P ops Q rest C' a I' → K a) → K (a.put o.dst v), ho, .inl ⟨hw, h1 _ (fun _ _ C' h2 h3 h4 => ⟨C', h2, h3, h4⟩)⟩, fun v I' hv => by obtain ⟨C', h2, h3, h4⟩ := hv; exact ⟨C', h2, h3, h4 _ (fun _ h => h)⟩⟩,
    ⟨o', fun v I' => ∃ C' : (World → Prop) → Prop, (∀ I, C' I → C I) ∧ C' I' ∧ ∀ K : Act → Prop, (∀ a, PlanS P ops Q pj C' a I' → K a) → K (a.put o'.dst v), ho', .inl ⟨hw', h2 _ (fun _ _ C' h2 h3 h4 => ⟨C', h2, h3, h4⟩)⟩, fun v I' hv => by obtain ⟨C', h2, h3, h4⟩ := hv; exact ⟨C', h2, h3, h4 _ (fun _ h => h)⟩⟩⟩
/-- 'append' onto a row, as an operation of a script. -/
theorem St.came_row {S : Nat → Prop} {w0 w : World} {L : List SP} {e : TypeId} {size n : Nat} {v : Value} {xs : List Value} (H : St S w0 w (Row e size v n xs :: L)) {o : Oper} {a : Act} (s x : Operand) (t : TypeId)
    (ho : o.op = .call { callee := .builtin .append, args := #[s, x], argTypes := #[t, t] }) {z : Value} {bytes : Nat} (ht : P.underlying t = some (.slice e))
    (hinfo : (P.info? e).map (fun i => (i.zero, i.size, i.bytes)) = some (some z, size, bytes)) (hzs : z.cells.size = size ∧ 0 < size ∧ 0 < bytes)
    (hs : a.eval s = v) {A : Option Addr} {c m : Nat} (news : List Value) (hx : a.eval x = .slice A m c) (hl : news.length = m * size) (hA : A = none → m = 0) (hnews : ∀ ad, A = some ad → ∀ j u, news[j]? = some u → w.cell? (ad.add j) = some u) (h1 : ∀ u ∈ news, u.oneCell' = true)
    (hbytes : (n + m) * bytes ≤ 140737488355328) {V : Value → (World → Prop) → Prop}
    (h : ∀ v' w', St S w0 w' (Row e size v' (n + m) (xs ++ news) :: L) → ∃ I', V v' I' ∧ I' w') : CameV P V ((execOp a.eval o).run P w) := by
  obtain ⟨v', w', hr, h2, h3⟩ := H.run_append 0 rfl (ty := o.type) (c := c) ht hinfo hzs news hl hA hnews h1 hbytes
  unfold execOp
  simp only [ho, resolve, invoke, builtin, Sem.run_bind, Sem.run_pure, Result.andThen_ok, List.map_toArray, List.map_cons, List.map_nil, hs, hx, hr]
  exact h v' w' h2
end

/-! A script for the first operations, and the others in one order. -/
section
variable {P : Program} {ops : Array Oper} {md : Region.Mode}
def HeadI (P : Program) (md : Region.Mode) (ops : Array Oper) (C : (World → Prop) → Prop) (n : Nat) (L : Array Bool → Act → (World → Prop) → Prop) : Nat → Array Bool → Act → (World → Prop) → Prop
  | 0, listed, a, I => L listed a I
  | f + 1, listed, a, I => Region.ready md ops listed ≠ [] ∧
    ∀ i ∈ Region.ready md ops listed, i < n ∧ ∃ o V, ops[i]? = some o ∧ StepTo P ops I o V a ∧ ∀ v I', V v I' → C I' ∧ HeadI P md ops C n L f (listed.setIfInBounds i true) (a.put o.dst v) I'
theorem HeadI.any {n g : Nat} {C : (World → Prop) → Prop} {L : Array Bool → Act → (World → Prop) → Prop} {Q' : Exit → Act → World → Prop} (hL : ∀ listed a I w, L listed a I → I w → wpAny P md ops Q' g listed a w) :
    ∀ (f : Nat) (listed : Array Bool) (a : Act) (I : World → Prop) (w : World), I w → HeadI P md ops C n L f listed a I → wpAny P md ops Q' (f + g) listed a w
  | 0, listed, a, I, w, hw, h => by rw [Nat.zero_add]; exact hL _ _ _ _ h hw
  | f + 1, listed, a, I, w, hw, h => by
    rw [show f + 1 + g = (f + g) + 1 by omega]
    refine ⟨fun h0 => absurd h0 h.1, fun i hi => ?_⟩
    obtain ⟨_, o, V, h1, h2, h3⟩ := h.2 i hi
    exact h2.op h1 hw (fun v I' hv w' hw' => HeadI.any hL f _ _ I' w' hw' (h3 v I' hv).2)
theorem HeadI.mono {n : Nat} {C C' : (World → Prop) → Prop} {L : Array Bool → Act → (World → Prop) → Prop} (hC : ∀ I, C' I → C I) : ∀ {f : Nat} {listed : Array Bool} {a : Act} {I : World → Prop}, HeadI P md ops C' n L f listed a I → HeadI P md ops C n L f listed a I
  | 0, _, _, _, h => h
  | f + 1, _, _, _, h => ⟨h.1, fun i hi => by
      obtain ⟨h0, o, V, h1, h2, h3⟩ := h.2 i hi
      exact ⟨h0, o, V, h1, h2, fun v I' hv => ⟨hC _ (h3 v I' hv).1, HeadI.mono hC (h3 v I' hv).2⟩⟩⟩
theorem HeadI.first {n i : Nat} {oi : Oper} {v : Value} {C : (World → Prop) → Prop} {L : Array Bool → Act → (World → Prop) → Prop} (hi : ops[i]? = some oi) (hsel : ∀ (j : Nat) (o : Oper) cs b, ops[j]? = some o → o.op ≠ .select cs b)
    (hs : Region.sinkB md ops n = true) (hc : Region.chainB md ops n = true) (hn : n < ops.size) (hin : i < n) (hdone : ∀ listed a I, L listed a I → ∀ j ∈ Region.ready md ops listed, n ≤ j) :
    ∀ (f : Nat) (listed : Array Bool) (a : Act) (I : World → Prop), C I → HeadInv md ops n listed →
      (∀ j oj, ops[j]? = some oj → j ≠ i → listed.getD j true = false → (∀ e ∈ oj.after, Region.binds md e = true → e.on ≠ i) → oi.apart ops oj = true) →
      i ∈ Region.ready md ops listed → SmallOp P ops C oi v a → HeadI P md ops C n L f (listed.setIfInBounds i true) (a.put oi.dst v) I → HeadI P md ops C n L (f + 1) listed a I := by
  intro f
  induction f with
  | zero =>
    intro listed a I hI inv _ hr hy H
    have hun := (mem_ready.1 hr).1
    refine ⟨fun h => (by rw [h] at hr; cases hr), fun j hj => ?_⟩
    have hjn : j < n := by
      rcases Nat.lt_or_ge j n with h | h
      · exact h
      · exact absurd hj (tail_waits hs hc hn inv _ i rfl hin hun j h)
    refine ⟨hjn, ?_⟩
    by_cases hji : j = i
    · subst hji
      refine ⟨oi, _, hi, hy.step hI, ?_⟩
      rintro v' I' ⟨rfl, rfl⟩
      exact ⟨hI, H⟩
    · have := hdone _ _ _ H j (ready_mono hj hji)
      omega
  | succ f ih =>
    intro listed a I hI inv hfree hr hy H
    have hun := (mem_ready.1 hr).1
    refine ⟨fun h => (by rw [h] at hr; cases hr), fun j hj => ?_⟩
    have hjn : j < n := by
      rcases Nat.lt_or_ge j n with h | h
      · exact h
      · exact absurd hj (tail_waits hs hc hn inv _ i rfl hin hun j h)
    refine ⟨hjn, ?_⟩
    by_cases hji : j = i
    · subst hji
      refine ⟨oi, _, hi, hy.step hI, ?_⟩
      rintro v' I' ⟨rfl, rfl⟩
      exact ⟨hI, H⟩
    · obtain ⟨_, oj, V, hoj, hyj, Hj⟩ := H.2 j (ready_mono hj hji)
      obtain ⟨hjun, oj', hoj', hall⟩ := mem_ready.1 hj
      obtain rfl : oj' = oj := by rw [hoj] at hoj'; exact (Option.some.inj hoj').symm
      have hnot : ∀ e ∈ oj'.after, Region.binds md e = true → e.on ≠ i := fun e he hb heq => by
        have h1 := hall e he hb
        rw [heq, getD_both hun] at h1
        cases h1
      obtain ⟨h1, h2, h3⟩ := Oper.apart_spec (hfree j oj' hoj hji hjun hnot)
      have hyj' : StepTo P ops I oj' V a := hyj.same (execOp_put oj' (fun cs b => hsel j oj' cs b hoj) a oi.dst v h1).symm (wanted_put oj' a oi.dst v h1).symm
      refine ⟨oj', V, hoj, hyj', fun u I' hu => ⟨(Hj u I' hu).1, ?_⟩⟩
      have hyi' : SmallOp P ops C oi v (a.put oj'.dst u) := hy.same (execOp_put oi (fun cs b => hsel i oi cs b hi) a oj'.dst u h3) (wanted_put oi a oj'.dst u h3)
      refine ih _ _ I' (Hj u I' hu).1 (inv.set hj hjn) (fun k ok hk hki hun hno => ?_) (ready_mono hr (Ne.symm hji)) hyi' ?_
      · refine hfree k ok hk hki ?_ hno
        by_cases hjk : j = k
        · subst hjk; exact hjun
        · rw [getD_set_ne true hjk] at hun; exact hun
      · rw [Array.setIfInBounds_comm _ _ hji, ← Act.put_comm a v u h2]
        exact (Hj u I' hu).2
def scriptTB (md : Region.Mode) (ops : Array Oper) (g n : Nat) : List (Nat × Bool) → Array Bool → Bool
  | [], listed => Region.seqB md ops g n listed
  | (i, false) :: rest, listed => decide (i < n) && ((Region.ready md ops listed).contains i && Region.free md ops listed i && scriptTB md ops g n rest (listed.setIfInBounds i true))
  | (i, true) :: rest, listed => decide (i < n) && (decide (Region.ready md ops listed = [i]) && scriptTB md ops g n rest (listed.setIfInBounds i true))
theorem Script.head {Q : Act → World → Prop} {g n : Nat} (hsel : Region.noSelect ops = true) (hs : Region.sinkB md ops n = true) (hc : Region.chainB md ops n = true) (hn : n < ops.size) :
    ∀ (l : List (Nat × Bool)) (C : (World → Prop) → Prop) (listed : Array Bool) (a : Act) (I : World → Prop), C I → HeadInv md ops n listed → scriptTB md ops g n l listed = true → Script P ops Q l C a I →
      HeadI P md ops C n (fun listed' a' I' => Region.seqB md ops g n listed' = true ∧ ∀ w, I' w → Q a' w) l.length listed a I
  | [], _, _, _, _, _, _, hB, h => ⟨hB, h⟩
  | (i, false) :: l, C, listed, a, I, hC, inv, hB, ⟨o, v, h0, hy, h⟩ => by
    simp only [scriptTB, Bool.and_eq_true, decide_eq_true_eq] at hB
    obtain ⟨hin, ⟨hr, hf⟩, hB'⟩ := hB
    have hr' : i ∈ Region.ready md ops listed := by simpa using hr
    exact HeadI.first h0 (Region.noSelect_spec hsel) hs hc hn hin (fun listed' a' I' hL => seqB_ready hL.1) l.length listed a I hC inv (Region.free_spec h0 hf) hr' hy (Script.head hsel hs hc hn l C _ _ I hC (inv.set hr' hin) hB' h)
  | (i, true) :: l, C, listed, a, I, hC, inv, hB, ⟨o, V, h0, hy, h⟩ => by
    simp only [scriptTB, Bool.and_eq_true, decide_eq_true_eq] at hB
    obtain ⟨hin, hr, hB'⟩ := hB
    have hr' : i ∈ Region.ready md ops listed := by rw [hr]; simp
    refine ⟨fun h => (by rw [hr] at h; cases h), fun j hj => ?_⟩
    rw [hr] at hj
    obtain rfl : j = i := by simpa using hj
    refine ⟨hin, o, V, h0, hy, fun v I' hv => ?_⟩
    obtain ⟨C', h1, h2, h3⟩ := h v I' hv
    exact ⟨h1 _ h2, HeadI.mono h1 (Script.head hsel hs hc hn l C' _ _ I' h2 (inv.set hr' hin) hB' h3)⟩
/-- A REGION THAT DRAWS: its first n operations by a script, the others stand in one order. -/
theorem wp_script_tail {id : Nat} {Q : Exit → Act → World → Prop} {a : Act} {w : World} {l : List Oper} (n : Nat) (s : List (Nat × Bool)) (C : (World → Prop) → Prop) (I : World → Prop) (hm : P.follows .mixedOrders = true) (hl : s.length = n) (hs : Region.noSelect l.toArray = true)
    (hB : (decide (n < l.length) && Region.sinkB .any l.toArray n && Region.chainB .any l.toArray n && scriptTB .any l.toArray (l.length - n) n s (Array.replicate l.toArray.size false)) = true) (h0 : I w.drew) (hC : C I)
    (h : Script P l.toArray (fun a w => wpList P l.toArray Q (l.drop n) a w) s C a I) : (Code.region id l.toArray true).wp P Q a w := by
  simp only [Bool.and_eq_true, decide_eq_true_eq] at hB
  obtain ⟨⟨⟨hn, hsk⟩, hc⟩, hB⟩ := hB
  have hn' : n < l.toArray.size := by simpa using hn
  have hdl : (l.drop n).length = l.length - n := by simp
  have inv0 : HeadInv .any l.toArray n (Array.replicate l.toArray.size false) :=
    ⟨by simp, fun j oj _ hl => (by rw [getD_replicate_false] at hl; cases hl), fun t _ ht => getD_in (by simpa using ht) (getD_replicate_false _ _)⟩
  have H := Script.head (P := P) (md := .any) (g := l.length - n) hs hsk hc hn' s C _ a I hC inv0 hB h
  refine wp_region_any hm ?_
  have := HeadI.any (Q' := Q) (g := l.length - n) (fun listed a' I' w' hL hw' => by
    have := wpAny_of_seq (P := P) (md := .any) (Q' := Q) (l.drop n) n listed a' w' (fun j => by simp [List.getElem?_drop]) (by rw [hdl]; exact hL.1) (hL.2 w' hw')
    rwa [hdl] at this) _ _ _ _ _ h0 H
  rw [hl, show n + (l.length - n) = l.toArray.size by simp; omega] at this
  exact this
end
end Go.Proofs.YtiglgfonhdfpmaaGreat

/- An operator's panes, states and outs, as plain data; what a step does. Plain laws, no program in sight. -/
set_option linter.unusedVariables false
set_option linter.unusedSimpArgs false
namespace Go.Proofs.YtiglgfonhdfpmaaGreat

structure Pn where
  w : Wd
  g : Ag
  round : Int
structure Stt where
  mark : Int
  panes : List Pn
structure Ot where
  late : Bool
  item : Itm
  w : Wd
  round : Int
  value : List Int
def itm00 : Itm := ⟨0, [], 0, 0⟩
def wd000 : Wd := ⟨[], 0, 0⟩
def Wd.ripe (x : Wd) (mark : Int) : Bool := x.right && decide (x.to ≤ mark)
def Wd.gone (q : Qry) (x : Wd) (mark : Int) : Bool := x.right && q.right && decide (x.to + q.late ≤ mark)
def Wd.has (x : Wd) (t : Int) : Bool := x.right && decide (x.frm ≤ t) && decide (t < x.to)
/-- By To, From, Key. -/
def Wd.cmp (a b : Wd) : Int := if Lib.compareInt a.to b.to ≠ 0 then Lib.compareInt a.to b.to else if Lib.compareInt a.frm b.frm ≠ 0 then Lib.compareInt a.frm b.frm else Lib.compareBytes a.key b.key
/-- The windows of a sliding query that a time is in: their numbers run up to t / step. -/
def slideWs (q : Qry) (key : List UInt8) (t : Int) : List Wd := ((List.range ((t / q.slide).toNat + 1)).filter fun (k : Nat) => decide (t < (k : Int) * q.slide + q.size)).map fun (k : Nat) => ⟨key, (k : Int) * q.slide, (k : Int) * q.slide + q.size⟩
def winsOf (q : Qry) (key : List UInt8) (t : Int) : List Wd :=
  if q.right = true ∧ nameB key = true ∧ 0 ≤ t ∧ t ≤ 1099511627776 then
    (if q.kind = 3 then [⟨key, t, t + q.size⟩] else if q.kind = 2 then slideWs q key t else [⟨key, t - t % q.size, t - t % q.size + q.size⟩])
  else []
def fitsM (q : Qry) (x : Wd) : Bool := if q.kind = 3 then x.right && decide (q.size ≤ x.to - x.frm) else (winsOf q x.key x.frm).contains x
def Pn.ok (q : Qry) (mark : Int) (p : Pn) : Bool :=
  fitsM q p.w && !p.w.gone q mark && decide (0 ≤ p.round) && decide (p.round ≤ 1073741824) && p.g.right q && decide (0 < p.g.n) && (decide (0 < p.round) == p.w.ripe mark)
def sortedP : List Pn → Bool
  | [] => true
  | [_] => true
  | a :: b :: r => decide (a.w.place b.w < 0) && sortedP (b :: r)
def settledW : List Wd → Bool
  | [] => true
  | [x] => x.right
  | a :: b :: r => a.right && decide (a.place b < 0) && !a.joins b && settledW (b :: r)
def Stt.right (q : Qry) (s : Stt) : Bool :=
  q.right && decide (-1 ≤ s.mark) && decide (s.mark ≤ 1099511627776) && decide (s.panes.length ≤ 256) && s.panes.all (·.ok q s.mark) && sortedP s.panes && (decide (q.kind ≠ 3) || settledW (s.panes.map (·.w)))

end Go.Proofs.YtiglgfonhdfpmaaGreat

/- What a step of an operator does, as plain data: an event's windows one by one, a mark, runs. Plain definitions and first laws, no program in sight. -/
set_option linter.unusedVariables false
set_option linter.unusedSimpArgs false
namespace Go.Proofs.YtiglgfonhdfpmaaGreat

/-- The panes of some windows, joined in their order; and how often the window's own pane was fired. None: a number runs over. -/
def gathM (q : Qry) (x : Wd) (old : Wd → Bool) : List Pn → Ag × Int → Option (Ag × Int)
  | [], s => some s
  | p :: r, s => if old p.w = true then (match mergeM q s.1 p.g with | none => none | some g => gathM q x old r (g, if p.w = x then p.round else s.2)) else gathM q x old r s
/-- A value put into what a window's pane knows: the pane, and what comes out. -/
def putM (q : Qry) (mark : Int) (x : Wd) (g : Ag) (r v : Int) : Option (Pn × List Ot) :=
  match mergeM q g (singleM q v) with
  | none => none
  | some a => if x.ripe mark = true then (if r = 1073741824 then none else some (⟨x, a, r + 1⟩, [⟨false, itm00, x, r + 1, valueM q a⟩])) else some (⟨x, a, r⟩, [])
def placeP (l : List Pn) (x : Wd) : Nat := posW (l.map (·.w)) x
def withP (l : List Pn) (p : Pn) : List Pn := l.take (placeP l p.w) ++ p :: l.drop (placeP l p.w)
def layM (q : Qry) (mark : Int) (x : Wd) (old : Wd → Bool) (v : Int) (l : List Pn) : Option (List Pn × List Ot) :=
  match gathM q x old l (Ag.zero, 0) with
  | none => none
  | some s => match putM q mark x s.1 s.2 v with
    | none => none
    | some y => some (withP (l.filter fun p => !old p.w) y.1, y.2)
/-- Which window an event's window becomes among these, and which give way. -/
def becM (q : Qry) (l : List Pn) (own : Wd) : Wd := if q.kind = 3 then becOf (l.map (·.w)) own else own
def oldM (q : Qry) (own : Wd) (y : Wd) : Bool := if q.kind = 3 then y.joins own else decide (y = own)
structure EvS where
  panes : List Pn
  outs : List Ot
  taken : Bool
def laysM (q : Qry) (mark v : Int) : List Wd → EvS → Option EvS
  | [], s => some s
  | own :: r, s =>
    if (becM q s.panes own).gone q mark = true then laysM q mark v r s
    else match layM q mark (becM q s.panes own) (oldM q own) v s.panes with
      | none => none
      | some y => laysM q mark v r ⟨y.1, s.outs ++ y.2, true⟩
def lateO (x : Itm) : Ot := ⟨true, x, wd000, 0, []⟩
structure StepR where
  s : Stt
  outs : List Ot
  e : Int
def eventM (q : Qry) (s : Stt) (x : Itm) : StepR :=
  match laysM q s.mark x.value (winsOf q x.key x.time) ⟨s.panes, [], false⟩ with
  | none => ⟨s, [], 20⟩
  | some y => if 256 < y.panes.length then ⟨s, [], 30⟩ else ⟨⟨s.mark, y.panes⟩, if y.taken = true then y.outs else y.outs ++ [lateO x], 0⟩
/-- Panes in the order in which they fire. -/
def insC (p : Pn) : List Pn → List Pn
  | [] => [p]
  | y :: r => if y.w.cmp p.w < 0 then y :: insC p r else p :: y :: r
def sortC : List Pn → List Pn
  | [] => []
  | p :: r => insC p (sortC r)
def Pn.now (m : Int) (p : Pn) : Bool := decide (p.round = 0) && p.w.ripe m
def Pn.fire (m : Int) (p : Pn) : Pn := if p.now m = true then { p with round := 1 } else p
def fireO (q : Qry) (p : Pn) : Ot := ⟨false, itm00, p.w, 1, valueM q p.g⟩
def markM (q : Qry) (s : Stt) (m : Int) : Stt × List Ot :=
  if m ≤ s.mark then (s, []) else (⟨m, (s.panes.map (Pn.fire m)).filter fun p => !p.w.gone q m⟩, (sortC (s.panes.filter (Pn.now m))).map (fireO q))
def stepM (q : Qry) (s : Stt) (x : Itm) : StepR :=
  if (s.right q && x.right) = true then (if x.kind = 2 then ⟨(markM q s x.time).1, (markM q s x.time).2, 0⟩ else eventM q s x) else ⟨s, [], 2⟩
structure RunR where
  s : Stt
  outs : List Ot
  n : Nat
  e : Int
def runsM (q : Qry) : List Itm → RunR → RunR
  | [], r => r
  | x :: l, r => if (stepM q r.s x).e = 0 then runsM q l ⟨(stepM q r.s x).s, r.outs ++ (stepM q r.s x).outs, r.n + 1, 0⟩ else ⟨r.s, r.outs, r.n, (stepM q r.s x).e⟩
def stt0 : Stt := ⟨-1, []⟩

end Go.Proofs.YtiglgfonhdfpmaaGreat

/- The walks of the queries' Right, the program's and the document's. No condition but that numbers are of 64 bits. -/
set_option linter.unusedVariables false
set_option linter.unusedSimpArgs false
namespace Go.Proofs.YtiglgfonhdfpmaaGreat
open Go.RowKit

abbrev qyC (q : Qry) : Array Value := #[.int .i64 q.kind, .int .i64 q.size, .int .i64 q.slide, .int .i64 q.late, .int .i64 q.agg, .int .i64 q.k]
abbrev qyV (q : Qry) : Value := .agg (qyC q)
set_option maxHeartbeats 1000000 in
set_option maxRecDepth 100000 in
theorem query_within (n lo hi : Int) (w : World) : Calls Tryz.prog 108 #[.int .i64 n, .int .i64 lo, .int .i64 hi] w fun e w' => e = .returned (.bool (decide (lo ≤ n ∧ n ≤ hi))) ∧ w' = w := by
  by_cases h1 : lo ≤ n
  · have z1 : decide (lo ≤ n) = true := by simpa using h1
    have hf := Lib.hid (show decide (lo ≤ n ∧ n ≤ hi) = decide (n ≤ hi) by simp [h1])
    clear h1
    go_enter Tryz.func108, Tryz.ntmps108
    go_wp2
    go_ret
    rw [hf.out]
    exact ⟨rfl, rfl⟩
  · have z1 : decide (lo ≤ n) = false := by simpa using h1
    have hf := Lib.hid (show decide (lo ≤ n ∧ n ≤ hi) = false by simp [h1])
    clear h1
    go_enter Tryz.func108, Tryz.ntmps108
    go_wp2
    go_ret
    rw [hf.out]
    exact ⟨rfl, rfl⟩
set_option maxHeartbeats 1000000 in
set_option maxRecDepth 100000 in
theorem query_slides (q : Qry) (hs : q.size ≤ 1073741824) (w : World) : Calls Tryz.prog 109 #[qyV q] w fun e w' => e = .returned (.bool q.slides) ∧ Below w.heap.size w w' := by
  obtain ⟨kd, sz, sl, lt, ag, kk⟩ := q
  simp only at hs
  obtain ⟨b, hb⟩ : ∃ g, w.heap.size = g := ⟨_, rfl⟩
  have H : St (fun _ => False) w (w.alloc (.cells (qyC ⟨kd, sz, sl, lt, ag, kk⟩) 23)) [Blk b (qyC ⟨kd, sz, sl, lt, ag, kk⟩) 23] := (St.nil _ w).allocAt hb _ _
  obtain ⟨w1, hw1⟩ : ∃ w1, w.alloc (.cells (qyC ⟨kd, sz, sl, lt, ag, kk⟩) 23) = w1 := ⟨_, rfl⟩
  rw [hw1] at H
  have c0 := H.cell 0 0 rfl rfl
  have c1 := H.cell 0 1 rfl rfl
  have c2 := H.cell 0 2 rfl rfl
  have kw := fun w' => query_within sl 1 sz w'
  unfold qyV qyC at *
  simp only at hw1
  go_enter Tryz.func109, Tryz.ntmps109
  go_upto_region 1 with (fail)
  try simp only [hb]
  try rw [hw1]
  clear hw1 hb
  by_cases h2 : kd = 2
  · have y1 : (kd == 2) = true := by simpa using h2
    have y2 : (kd != 2) = false := by simpa using h2
    have hf := Lib.hid (show Qry.slides ⟨kd, sz, sl, lt, ag, kk⟩ = (decide (1 ≤ sl ∧ sl ≤ sz) && decide (sz ≤ 16 * sl)) by
      unfold Qry.slides
      simp only [h2, if_true]
      by_cases ha : 1 ≤ sl <;> by_cases hb : sl ≤ sz <;> simp [ha, hb])
    by_cases h3 : 1 ≤ sl ∧ sl ≤ sz
    · have z3 : decide (1 ≤ sl ∧ sl ≤ sz) = true := by simpa using h3
      have v1 : IntKind.i64.wrap (16 * sl) = 16 * sl := by rw [IntKind.wrap_i64]; omega
      rw [z3] at kw
      simp only [z3, Bool.true_and] at hf
      clear h2 z3 h3
      go_wp2_with (go_at_call 108; go_must (refine (kw _).mono ?_; rintro e w2 ⟨rfl, rfl⟩))
      go_ret
      rw [hf.out]
      exact ⟨rfl, H.below (Nat.le_refl _) (fun _ h => h.elim)⟩
    · have z3 : decide (1 ≤ sl ∧ sl ≤ sz) = false := by simpa using h3
      rw [z3] at kw
      simp only [z3, Bool.false_and] at hf
      clear h2 z3 h3
      go_wp2_with (go_at_call 108; go_must (refine (kw _).mono ?_; rintro e w2 ⟨rfl, rfl⟩))
      go_ret
      rw [hf.out]
      exact ⟨rfl, H.below (Nat.le_refl _) (fun _ h => h.elim)⟩
  · have y1 : (kd == 2) = false := by simpa using h2
    have hf := Lib.hid (show Qry.slides ⟨kd, sz, sl, lt, ag, kk⟩ = (sl == 0) by
      unfold Qry.slides
      simp only [h2, if_false]
      rw [Bool.eq_iff_iff]
      simp)
    clear h2
    go_wp2
    go_ret
    rw [hf.out]
    exact ⟨rfl, H.below (Nat.le_refl _) (fun _ h => h.elim)⟩

set_option maxHeartbeats 4000000 in
set_option maxRecDepth 100000 in
theorem query_right (q : Qry) (w : World) : Calls Tryz.prog 60 #[qyV q] w fun e w' => e = .returned (.bool q.right) ∧ Below w.heap.size w w' := by
  have kS := fun (h : q.size ≤ 1073741824) w' => query_slides q h w'
  obtain ⟨kd, sz, sl, lt, ag, kk⟩ := q
  simp only at kS
  obtain ⟨b, hb⟩ : ∃ g, w.heap.size = g := ⟨_, rfl⟩
  have H : St (fun _ => False) w (w.alloc (.cells (qyC ⟨kd, sz, sl, lt, ag, kk⟩) 23)) [Blk b (qyC ⟨kd, sz, sl, lt, ag, kk⟩) 23] := (St.nil _ w).allocAt hb _ _
  obtain ⟨w1, hw1⟩ : ∃ w1, w.alloc (.cells (qyC ⟨kd, sz, sl, lt, ag, kk⟩) 23) = w1 := ⟨_, rfl⟩
  rw [hw1] at H
  obtain ⟨K, hK⟩ : ∃ K : Int, (if ag = 6 then (8 : Int) else 0) = K := ⟨_, rfl⟩
  obtain ⟨K1, hK1⟩ : ∃ K1 : Int, (if ag = 6 then (1 : Int) else 0) = K1 := ⟨_, rfl⟩
  have hmin : min K 1 = K1 := by rw [← hK, ← hK1]; split <;> rfl
  have hcond : (if K < 1 then K else 1) = K1 := by rw [← hK, ← hK1]; split <;> simp
  have k1 := fun w' => query_within kd 1 3 w'
  have k2 := fun w' => query_within sz 1 1073741824 w'
  have k4 := fun w' => query_within lt 0 1073741824 w'
  have k5 := fun w' => query_within ag 1 7 w'
  have k6 := fun w' => query_within kk K1 K w'
  have hf0 : Qry.right ⟨kd, sz, sl, lt, ag, kk⟩ = (decide (1 ≤ kd ∧ kd ≤ 3) && decide (1 ≤ sz ∧ sz ≤ 1073741824) && Qry.slides ⟨kd, sz, sl, lt, ag, kk⟩ && decide (0 ≤ lt ∧ lt ≤ 1073741824) && decide (1 ≤ ag ∧ ag ≤ 7) && decide (K1 ≤ kk ∧ kk ≤ K)) := by
    unfold Qry.right Qry.kB
    simp only
    congr 1
    rw [← hK, ← hK1]
    by_cases h : ag = 6
    · simp only [h, if_true]
      by_cases h1 : 1 ≤ kk <;> by_cases h2 : kk ≤ 8 <;> simp [h1, h2]
    · simp only [h, if_false]
      rw [Bool.eq_iff_iff]
      simp
      omega
  have hz2 : decide (1 ≤ sz ∧ sz ≤ 1073741824) = true → sz ≤ 1073741824 := fun h => (of_decide_eq_true h).2
  obtain ⟨b1, e1⟩ : ∃ b1, decide (1 ≤ kd ∧ kd ≤ 3) = b1 := ⟨_, rfl⟩
  obtain ⟨b2, e2⟩ : ∃ b2, decide (1 ≤ sz ∧ sz ≤ 1073741824) = b2 := ⟨_, rfl⟩
  obtain ⟨b3, e3⟩ : ∃ b3, Qry.slides ⟨kd, sz, sl, lt, ag, kk⟩ = b3 := ⟨_, rfl⟩
  obtain ⟨b4, e4⟩ : ∃ b4, decide (0 ≤ lt ∧ lt ≤ 1073741824) = b4 := ⟨_, rfl⟩
  obtain ⟨b5, e5⟩ : ∃ b5, decide (1 ≤ ag ∧ ag ≤ 7) = b5 := ⟨_, rfl⟩
  obtain ⟨b6, e6⟩ : ∃ b6, decide (K1 ≤ kk ∧ kk ≤ K) = b6 := ⟨_, rfl⟩
  rw [e1] at k1
  rw [e2] at k2 hz2
  rw [e4] at k4
  rw [e5] at k5
  rw [e6] at k6
  simp only [e3] at kS
  rw [e1, e2, e3, e4, e5, e6] at hf0
  have hf := Lib.hid hf0
  clear hf0 e1 e2 e3 e4 e5 e6
  have c0 := H.cell 0 0 rfl rfl
  have c1 := H.cell 0 1 rfl rfl
  have c2 := H.cell 0 2 rfl rfl
  have c3 := H.cell 0 3 rfl rfl
  have c4 := H.cell 0 4 rfl rfl
  have c5 := H.cell 0 5 rfl rfl
  unfold qyV qyC at *
  simp only at hw1
  have hca := Lib.hid (show (ag = 6 → K = 8) ∧ (ag ≠ 6 → K = 0) from ⟨fun h => by rw [← hK, if_pos h], fun h => by rw [← hK, if_neg h]⟩)
  clear hK hK1
  go_enter Tryz.func60, Tryz.ntmps60
  go_upto_region 1 with (fail)
  try simp only [hb]
  try rw [hw1]
  clear hw1 hb
  go_upto_if 6 with (fail)
  go_cut [3] from 6 to 7 (fun x wx => x = .int .i64 K ∧ wx = w1)
  case first =>
    by_cases h6 : ag = 6
    · have y1 : (ag == 6) = true := by simpa using h6
      have q1 := Lib.hid (hca.out.1 h6)
      clear h6
      go_wp2
      go_meet
      rw [q1.out]
      exact ⟨rfl, rfl⟩
    · have y1 : (ag == 6) = false := by simpa using h6
      have q1 := Lib.hid (hca.out.2 h6)
      clear h6
      go_wp2
      go_meet
      rw [q1.out]
      exact ⟨rfl, rfl⟩
  case rest =>
  obtain ⟨rfl, e⟩ := hcut
  rw [e]
  clear e
  have hk : b1 = false ∨ (b1 = true ∧ b2 = false) ∨ (b1 = true ∧ b2 = true ∧ b3 = false) ∨ (b1 = true ∧ b2 = true ∧ b3 = true ∧ b4 = false) ∨ (b1 = true ∧ b2 = true ∧ b3 = true ∧ b4 = true ∧ b5 = false) ∨ (b1 = true ∧ b2 = true ∧ b3 = true ∧ b4 = true ∧ b5 = true) := by
    cases b1 <;> cases b2 <;> cases b3 <;> cases b4 <;> cases b5 <;> simp
  have kS2 := fun (h : b2 = true) => kS (hz2 h)
  clear kS hz2
  rcases hk with rfl | ⟨rfl, rfl⟩ | ⟨rfl, rfl, rfl⟩ | ⟨rfl, rfl, rfl, rfl⟩ | ⟨rfl, rfl, rfl, rfl, rfl⟩ | ⟨rfl, rfl, rfl, rfl, rfl⟩
  all_goals
    go_wp2_with (first
      | (go_at_call 108; go_must (first
          | (with_reducible refine (k1 _).mono ?_; rintro e w2 ⟨rfl, rfl⟩)
          | (with_reducible refine (k2 _).mono ?_; rintro e w2 ⟨rfl, rfl⟩)
          | (with_reducible refine (k4 _).mono ?_; rintro e w2 ⟨rfl, rfl⟩)
          | (with_reducible refine (k5 _).mono ?_; rintro e w2 ⟨rfl, rfl⟩)
          | (with_reducible refine (k6 _).mono ?_; rintro e w2 ⟨rfl, rfl⟩)))
      | (go_at_call 109; go_must (refine (St.callPast (kS2 (by trivial) _) H).mono ?_; rintro e w2 ⟨rfl, H2⟩; clear c0 c1 c2 c3 c4 c5; have c3 := H2.cell 0 3 rfl rfl; have c4 := H2.cell 0 4 rfl rfl; have c5 := H2.cell 0 5 rfl rfl)))
    go_ret
    rw [hf.out]
    first
      | exact ⟨ret_bool (by simp), H2.below (Nat.le_refl _) (fun _ h => h.elim)⟩
      | exact ⟨ret_bool (by simp), H.below (Nat.le_refl _) (fun _ h => h.elim)⟩

end Go.Proofs.YtiglgfonhdfpmaaGreat

/- The walks of the library's Trunc at whole numbers, and of gauss: whole, Right, within, Of, Parts, Turn, Add. Condition: the numbers' size. -/
set_option linter.unusedVariables false
set_option linter.unusedSimpArgs false
namespace Go.Proofs.YtiglgfonhdfpmaaGreat
open Go.RowKit

theorem integral_ib {n : Int} (hn : n.natAbs < 2 ^ 53) : FloatKind.f64.encode ((Ieee.double.read (ib n)).integral .zero) = ib n := by
  obtain ⟨e, h1⟩ := rep_read hn
  rw [h1]
  unfold Ieee.Datum.integral
  simp only
  rw [show (-(e : Int)).toNat = 0 by omega, Nat.shiftLeft_zero, show (- -(e : Int)).toNat = e by omega, cut_zero]
  rfl
theorem toIntegral_num {nm : String} {way : Ieee.Toward} {x : Nat} {s : Bool} {m : Nat} {p : Int} (h : FloatKind.f64.decode x = .number s m p) :
    Extern.MathFloor.toIntegral nm way #[.float .f64 x] = pure (.float .f64 (FloatKind.f64.encode (Ieee.Datum.integral way (.number s m p)))) := by
  delta Extern.MathFloor.toIntegral
  generalize FloatKind.f64.decode = D at *
  conv => lhs; whnf
  rw [h]
theorem run_trunc {n : Int} (hn : n.natAbs < 2 ^ 53) (w : World) : (callFunc 291 #[.float .f64 (ib n)]).run Tryz.prog w = .ok (.value (.float .f64 (ib n))) w := by
  rw [run_callFunc_extern Tryz.func291 (by kernel_rfl) (by kernel_rfl) (by kernel_rfl) (e := Extern.MathFloor.toIntegral ("math.arch" ++ "Trunc") .zero) (by kernel_rfl)]
  have hi := integral_ib hn
  obtain ⟨e, h1⟩ := rep_read hn
  rw [h1] at hi
  rw [toIntegral_num (show FloatKind.f64.decode (ib n) = _ from h1), hi]
  rfl
theorem ge_ib {a b : Int} (ha : a.natAbs < 2 ^ 53) (hb : b.natAbs < 2 ^ 53) : (FloatKind.f64.format.order (ib a) (ib b) = some Ordering.gt ∨ FloatKind.f64.format.order (ib a) (ib b) = some Ordering.eq) ↔ b ≤ a := by
  have h : FloatKind.f64.format.order (ib a) (ib b) = some (compare a b) := order_ib ha hb
  rw [h]
  show (some (if a < b then Ordering.lt else if a = b then Ordering.eq else Ordering.gt) = _ ∨ some (if a < b then Ordering.lt else if a = b then Ordering.eq else Ordering.gt) = _) ↔ _
  split
  · simp; omega
  · split
    · simp; omega
    · simp; omega
theorem le_ib {a b : Int} (ha : a.natAbs < 2 ^ 53) (hb : b.natAbs < 2 ^ 53) : (FloatKind.f64.format.order (ib a) (ib b) = some Ordering.lt ∨ FloatKind.f64.format.order (ib a) (ib b) = some Ordering.eq) ↔ a ≤ b := by
  have h : FloatKind.f64.format.order (ib a) (ib b) = some (compare a b) := order_ib ha hb
  rw [h]
  show (some (if a < b then Ordering.lt else if a = b then Ordering.eq else Ordering.gt) = _ ∨ some (if a < b then Ordering.lt else if a = b then Ordering.eq else Ordering.gt) = _) ↔ _
  split
  · simp; omega
  · split
    · simp; omega
    · simp; omega
theorem eq_ib {a b : Int} (ha : a.natAbs < 2 ^ 53) (hb : b.natAbs < 2 ^ 53) : FloatKind.f64.format.order (ib a) (ib b) = some Ordering.eq ↔ a = b := by
  have h : FloatKind.f64.format.order (ib a) (ib b) = some (compare a b) := order_ib ha hb
  rw [h]
  show some (if a < b then Ordering.lt else if a = b then Ordering.eq else Ordering.gt) = _ ↔ _
  split
  · simp; omega
  · split
    · simp; omega
    · simp; omega
set_option maxHeartbeats 1000000 in
set_option maxRecDepth 100000 in
theorem math_trunc {n : Int} (hn : n.natAbs < 2 ^ 53) (w : World) : Calls Tryz.prog 258 #[.float .f64 (ib n)] w fun e w' => e = .returned (.float .f64 (ib n)) ∧ w' = w := by
  have hx := run_trunc hn w
  go_enter Tryz.func258, Tryz.ntmps258
  go_wp2
  go_ret
  exact ⟨rfl, rfl⟩
theorem ib_most : ib 1073741824 = 4742290407621132288 := by decide +kernel
theorem ib_least : ib (-1073741824) = 13965662444475908096 := by decide +kernel
theorem ib_one : ib 1 = 4607182418800017408 := by decide +kernel
theorem ib_neg : ib (-1) = 13830554455654793216 := by decide +kernel
set_option maxHeartbeats 1000000 in
set_option maxRecDepth 100000 in
theorem gauss_whole {n : Int} (hn : n.natAbs < 2 ^ 53) (w : World) : Calls Tryz.prog 204 #[.float .f64 (ib n)] w fun e w' => e = .returned (.bool (partB n)) ∧ w' = w := by
  have kt := fun w' => math_trunc hn w'
  have o1 := le_ib (a := n) (b := 1073741824) hn (by decide)
  have o2 := ge_ib (a := n) (b := -1073741824) hn (by decide)
  have o3 := (eq_ib (a := n) (b := n) hn hn).2 rfl
  have o4 : (FloatKind.f64.format.order (ib n) (ib n) == some Ordering.eq) = true := by rw [o3]; rfl
  rw [ib_most] at o1
  rw [ib_least] at o2
  go_enter Tryz.func204, Tryz.ntmps204
  by_cases h1 : -1073741824 ≤ n
  · have z1 : (FloatKind.f64.format.order (ib n) 13965662444475908096 == some Ordering.gt || FloatKind.f64.format.order (ib n) 13965662444475908096 == some Ordering.eq) = true := by rw [Bool.or_eq_true, beq_iff_eq, beq_iff_eq]; exact o2.2 h1
    by_cases h2 : n ≤ 1073741824
    · have z2 : (FloatKind.f64.format.order (ib n) 4742290407621132288 == some Ordering.lt || FloatKind.f64.format.order (ib n) 4742290407621132288 == some Ordering.eq) = true := by rw [Bool.or_eq_true, beq_iff_eq, beq_iff_eq]; exact o1.2 h2
      have hf := Lib.hid (show partB n = true from partB_iff.2 ⟨h1, h2⟩)
      clear o1 o2 h1 h2
      go_wp2_with (go_at_call 258; go_must (refine (kt _).mono ?_; rintro e w2 ⟨rfl, rfl⟩))
      go_ret
      rw [hf.out]
      exact ⟨rfl, rfl⟩
    · have z2 : (FloatKind.f64.format.order (ib n) 4742290407621132288 == some Ordering.lt || FloatKind.f64.format.order (ib n) 4742290407621132288 == some Ordering.eq) = false := by rw [← Bool.not_eq_true, Bool.or_eq_true, beq_iff_eq, beq_iff_eq]; exact fun h => h2 (o1.1 h)
      have hf := Lib.hid (show partB n = false by unfold partB; simp; omega)
      clear o1 o2 h1 h2 o3
      go_wp2
      go_ret
      rw [hf.out]
      exact ⟨rfl, rfl⟩
  · have z1 : (FloatKind.f64.format.order (ib n) 13965662444475908096 == some Ordering.gt || FloatKind.f64.format.order (ib n) 13965662444475908096 == some Ordering.eq) = false := by rw [← Bool.not_eq_true, Bool.or_eq_true, beq_iff_eq, beq_iff_eq]; exact fun h => h1 (o2.1 h)
    have hf := Lib.hid (show partB n = false by unfold partB; simp; omega)
    clear o1 o2 h1 o3
    go_wp2
    go_ret
    rw [hf.out]
    exact ⟨rfl, rfl⟩

set_option maxHeartbeats 1000000 in
set_option maxRecDepth 100000 in
theorem gauss_right {x y : Int} (hx : x.natAbs < 2 ^ 53) (hy : y.natAbs < 2 ^ 53) (w : World) : Calls Tryz.prog 150 #[.complex .f64 (ib x) (ib y)] w fun e w' => e = .returned (.bool (partB x && partB y)) ∧ w' = w := by
  have k1 := fun w' => gauss_whole hx w'
  have k2 := fun w' => gauss_whole hy w'
  obtain ⟨b1, e1⟩ : ∃ b, partB x = b := ⟨_, rfl⟩
  obtain ⟨b2, e2⟩ : ∃ b, partB y = b := ⟨_, rfl⟩
  obtain ⟨X, hX⟩ : ∃ X, ib x = X := ⟨_, rfl⟩
  obtain ⟨Y, hY⟩ : ∃ Y, ib y = Y := ⟨_, rfl⟩
  rw [e1, hX] at k1
  rw [e2, hY] at k2
  rw [e1, e2, hX, hY]
  clear e1 e2 hX hY
  go_enter Tryz.func150, Tryz.ntmps150
  cases b1 with
  | false =>
    go_wp2_with (go_at_call 204; go_must (refine (k1 _).mono ?_; rintro e w2 ⟨rfl, rfl⟩))
    go_ret
    exact ⟨rfl, rfl⟩
  | true =>
    go_wp2_with (go_at_call 204; go_must (first
      | (with_reducible refine (k1 _).mono ?_; rintro e w2 ⟨rfl, rfl⟩)
      | (with_reducible refine (k2 _).mono ?_; rintro e w2 ⟨rfl, rfl⟩)))
    go_ret
    exact ⟨by simp, rfl⟩
set_option maxHeartbeats 1000000 in
set_option maxRecDepth 100000 in
theorem gauss_within (n : Int) (w : World) : Calls Tryz.prog 317 #[.int .i64 n] w fun e w' => e = .returned (.bool (partB n)) ∧ w' = w := by
  by_cases h1 : -1073741824 ≤ n
  · have z1 : decide (-1073741824 ≤ n) = true := by simpa using h1
    have hf := Lib.hid (show partB n = decide (n ≤ 1073741824) by unfold partB; rw [z1, Bool.true_and])
    clear h1
    go_enter Tryz.func317, Tryz.ntmps317
    go_wp2
    go_ret
    rw [hf.out]
    exact ⟨rfl, rfl⟩
  · have z1 : decide (-1073741824 ≤ n) = false := by simpa using h1
    have hf := Lib.hid (show partB n = false by unfold partB; rw [z1, Bool.false_and])
    clear h1
    go_enter Tryz.func317, Tryz.ntmps317
    go_wp2
    go_ret
    rw [hf.out]
    exact ⟨rfl, rfl⟩
/-- A pair of parts made a complex number, or an error. -/
def ofM (x y : Int) : Int × Int × Int := if partB x = true ∧ partB y = true then (x, y, 0) else (0, 0, 20)
set_option maxHeartbeats 1000000 in
set_option maxRecDepth 100000 in
theorem gauss_of (x y : Int) (w : World) : Calls Tryz.prog 305 #[.int .i64 x, .int .i64 y] w fun e w' => e = .returned (.tuple #[.complex .f64 (ib (ofM x y).1) (ib (ofM x y).2.1), .int .i64 (ofM x y).2.2]) ∧ w' = w := by
  have k1 := fun w' => gauss_within x w'
  have k2 := fun w' => gauss_within y w'
  obtain ⟨b1, e1⟩ : ∃ b, partB x = b := ⟨_, rfl⟩
  obtain ⟨b2, e2⟩ : ∃ b, partB y = b := ⟨_, rfl⟩
  have hd : ofM x y = if b1 = true ∧ b2 = true then (x, y, 0) else (0, 0, 20) := by unfold ofM; rw [e1, e2]
  rw [e1] at k1
  rw [e2] at k2
  have i1 : FloatKind.f64.encode (.number (decide (x < 0)) x.natAbs 0) = ib x := rfl
  have i2 : FloatKind.f64.encode (.number (decide (y < 0)) y.natAbs 0) = ib y := rfl
  have i3 : floatOfInt .f64 x = ib x := rfl
  have i4 : floatOfInt .f64 y = ib y := rfl
  have hz := ib_zero
  clear e1 e2
  go_enter Tryz.func305, Tryz.ntmps305
  cases b1 with
  | false =>
    have hf := Lib.hid (show ofM x y = (0, 0, 20) by rw [hd]; simp)
    clear hd
    go_wp2_with (go_at_call 317; go_must (refine (k1 _).mono ?_; rintro e w2 ⟨rfl, rfl⟩))
    go_ret2
    rw [hf.out, hz]
    exact ⟨rfl, rfl⟩
  | true =>
    cases b2 with
    | false =>
      have hf := Lib.hid (show ofM x y = (0, 0, 20) by rw [hd]; simp)
      clear hd
      go_wp2_with (go_at_call 317; go_must (first
        | (with_reducible refine (k1 _).mono ?_; rintro e w2 ⟨rfl, rfl⟩)
        | (with_reducible refine (k2 _).mono ?_; rintro e w2 ⟨rfl, rfl⟩)))
      go_ret2
      rw [hf.out, hz]
      exact ⟨rfl, rfl⟩
    | true =>
      have hf := Lib.hid (show ofM x y = (x, y, 0) by rw [hd]; simp)
      clear hd hz
      go_wp2_with (go_at_call 317; go_must (first
        | (with_reducible refine (k1 _).mono ?_; rintro e w2 ⟨rfl, rfl⟩)
        | (with_reducible refine (k2 _).mono ?_; rintro e w2 ⟨rfl, rfl⟩)))
      go_ret2
      rw [hf.out]
      exact ⟨rfl, rfl⟩

end Go.Proofs.YtiglgfonhdfpmaaGreat

/- The walks of gauss: Parts, Turn, Add. Condition: the numbers' size. -/
set_option linter.unusedVariables false
set_option linter.unusedSimpArgs false
namespace Go.Proofs.YtiglgfonhdfpmaaGreat
open Go.RowKit

theorem ib_int {x : Int} (hx : x.natAbs < 2 ^ 53) (w : World) : (convert 216 3 (.float .f64 (ib x))).run Tryz.prog w = .ok (.int .i64 x) w := by
  refine run_convert_float_int w 216 3 .f64 .i64 (ib x) x (by kernel_rfl) Tryz.underlying3 ?_
  unfold floatToIntVal
  have h : (FloatKind.f64.decode (ib x)).toInt .zero = some x := toInt_ib hx
  rw [h]
  simp only
  have e1 : IntKind.i64.min = -9223372036854775808 := by decide
  have e2 : IntKind.i64.max = 9223372036854775807 := by decide
  rw [e1, e2, if_pos (by omega)]
theorem ib_sum {x y u v : Int} (hx : x.natAbs < 2 ^ 52) (hy : y.natAbs < 2 ^ 52) (hu : u.natAbs < 2 ^ 52) (hv : v.natAbs < 2 ^ 52) (t : TypeId) (w : World) :
    (binOp .add t (.complex .f64 (ib x) (ib y)) (.complex .f64 (ib u) (ib v))).run Tryz.prog w = .ok (.complex .f64 (ib (x + u)) (ib (y + v))) w := by
  refine run_complex_sum w .add (.inl rfl) t .f64 _ _ _ _ _ _ ?_
  unfold cSumBits
  rw [add_ib hx hu, add_ib hy hv]
  rfl
def partsM (x y : Int) : Int × Int := if partB x = true ∧ partB y = true then (x, y) else (0, 0)
set_option maxHeartbeats 1000000 in
set_option maxRecDepth 100000 in
theorem gauss_parts {x y : Int} (hx : x.natAbs < 2 ^ 53) (hy : y.natAbs < 2 ^ 53) (w : World) : Calls Tryz.prog 83 #[.complex .f64 (ib x) (ib y)] w fun e w' => e = .returned (.tuple #[.int .i64 (partsM x y).1, .int .i64 (partsM x y).2]) ∧ w' = w := by
  have k1 := fun w' => gauss_right hx hy w'
  have c1 := ib_int hx
  have c2 := ib_int hy
  have hd : partsM x y = if (partB x && partB y) = true then (x, y) else (0, 0) := by unfold partsM; simp
  obtain ⟨b, e⟩ : ∃ b, (partB x && partB y) = b := ⟨_, rfl⟩
  obtain ⟨X, hX⟩ : ∃ X, ib x = X := ⟨_, rfl⟩
  obtain ⟨Y, hY⟩ : ∃ Y, ib y = Y := ⟨_, rfl⟩
  rw [e, hX, hY] at k1
  rw [e] at hd
  rw [hX] at c1
  rw [hY] at c2
  rw [hX, hY]
  clear e hX hY
  go_enter Tryz.func83, Tryz.ntmps83
  cases b with
  | false =>
    have hf := Lib.hid (show partsM x y = (0, 0) by rw [hd]; simp)
    clear hd
    go_wp2_with (go_at_call 150; go_must (refine (k1 _).mono ?_; rintro e w2 ⟨rfl, rfl⟩))
    go_ret2
    rw [hf.out]
    exact ⟨rfl, rfl⟩
  | true =>
    have hf := Lib.hid (show partsM x y = (x, y) by rw [hd]; simp)
    clear hd
    go_wp2_with (go_at_call 150; go_must (refine (k1 _).mono ?_; rintro e w2 ⟨rfl, rfl⟩))
    go_ret2
    rw [hf.out]
    exact ⟨rfl, rfl⟩
set_option maxHeartbeats 1000000 in
set_option maxRecDepth 100000 in
theorem gauss_turn {v : Int} (hv : -9223372036854775808 ≤ v ∧ v ≤ 9223372036854775807) (w : World) : Calls Tryz.prog 289 #[.int .i64 v] w fun e w' => e = .returned (.complex .f64 (ib (turnX v)) (ib (turnY v))) ∧ w' = w := by
  have e0 := ib_zero
  have e1 := ib_one
  have e2 := ib_neg
  have hb : -4 < v.tmod 4 ∧ v.tmod 4 < 4 ∧ (v.tmod 4) % 4 = v % 4 := by
    rcases Int.le_total 0 v with h | h
    · rw [Int.tmod_eq_emod_of_nonneg h]; omega
    · obtain ⟨u, rfl⟩ : ∃ u, v = -u := ⟨-v, by omega⟩
      rw [Int.neg_tmod, Int.tmod_eq_emod_of_nonneg (by omega)]; omega
  have hr : (v.tmod 4 + 4).tmod 4 = v % 4 := by rw [Int.tmod_eq_emod_of_nonneg (by omega)]; omega
  have hq : v.tmod 4 + 4 ≤ 8 ∧ 0 ≤ v.tmod 4 + 4 := by omega
  have w0 : IntKind.i64.wrap (v.tmod 4) = v.tmod 4 := by rw [IntKind.wrap_i64]; omega
  have w1 : IntKind.i64.wrap (v.tmod 4 + 4) = v.tmod 4 + 4 := by rw [IntKind.wrap_i64]; omega
  have w2 : IntKind.i64.wrap (v % 4) = v % 4 := by rw [IntKind.wrap_i64]; omega
  have hc : v % 4 = 0 ∨ v % 4 = 1 ∨ v % 4 = 2 ∨ v % 4 = 3 := by omega
  obtain ⟨R, hR⟩ : ∃ R, v % 4 = R := ⟨_, rfl⟩
  have hx : turnX v = if R = 0 then 1 else if R = 2 then -1 else 0 := by unfold turnX; rw [hR]
  have hy : turnY v = if R = 1 then 1 else if R = 3 then -1 else 0 := by unfold turnY; rw [hR]
  rw [hR] at hr w2 hc
  clear hR hq hv hb
  go_enter Tryz.func289, Tryz.ntmps289
  rcases hc with rfl | rfl | rfl | rfl
  · have hX := Lib.hid (show turnX v = 1 from hx)
    have hY := Lib.hid (show turnY v = 0 from hy)
    clear hx hy
    go_wp2
    go_ret
    rw [hX.out, hY.out, e0, e1]
    exact ⟨rfl, rfl⟩
  · have hX := Lib.hid (show turnX v = 0 from hx)
    have hY := Lib.hid (show turnY v = 1 from hy)
    clear hx hy
    go_wp2
    go_ret
    rw [hX.out, hY.out, e0, e1]
    exact ⟨rfl, rfl⟩
  · have hX := Lib.hid (show turnX v = -1 from hx)
    have hY := Lib.hid (show turnY v = 0 from hy)
    clear hx hy
    go_wp2
    go_ret
    rw [hX.out, hY.out, e0, e2]
    exact ⟨rfl, rfl⟩
  · have hX := Lib.hid (show turnX v = 0 from hx)
    have hY := Lib.hid (show turnY v = -1 from hy)
    clear hx hy
    go_wp2
    go_ret
    rw [hX.out, hY.out, e0, e2]
    exact ⟨rfl, rfl⟩
def addM (x y u v : Int) : Int × Int × Int := if (partB x = true ∧ partB y = true) ∧ (partB u = true ∧ partB v = true) then ofM (x + u) (y + v) else (0, 0, 2)
set_option maxHeartbeats 1000000 in
set_option maxRecDepth 100000 in
theorem gauss_add {x y u v : Int} (hx : x.natAbs < 2 ^ 52) (hy : y.natAbs < 2 ^ 52) (hu : u.natAbs < 2 ^ 52) (hv : v.natAbs < 2 ^ 52) (w : World) :
    Calls Tryz.prog 284 #[.complex .f64 (ib x) (ib y), .complex .f64 (ib u) (ib v)] w fun e w' => e = .returned (.tuple #[.complex .f64 (ib (addM x y u v).1) (ib (addM x y u v).2.1), .int .i64 (addM x y u v).2.2]) ∧ w' = w := by
  have k1 := fun w' => gauss_right (x := x) (y := y) (by omega) (by omega) w'
  have k2 := fun w' => gauss_right (x := u) (y := v) (by omega) (by omega) w'
  have ko := fun w' => gauss_of (x + u) (y + v) w'
  have c1 := ib_int (x := x + u) (by omega)
  have c2 := ib_int (x := y + v) (by omega)
  have cs := ib_sum hx hy hu hv
  have e0 := ib_zero
  have hd : addM x y u v = if (partB x && partB y) = true ∧ (partB u && partB v) = true then ofM (x + u) (y + v) else (0, 0, 2) := by unfold addM; simp
  obtain ⟨b1, g1⟩ : ∃ b, (partB x && partB y) = b := ⟨_, rfl⟩
  obtain ⟨b2, g2⟩ : ∃ b, (partB u && partB v) = b := ⟨_, rfl⟩
  rw [g1] at k1
  rw [g2] at k2
  rw [g1, g2] at hd
  obtain ⟨X, hX⟩ : ∃ X, ib x = X := ⟨_, rfl⟩
  obtain ⟨Y, hY⟩ : ∃ Y, ib y = Y := ⟨_, rfl⟩
  obtain ⟨U, hU⟩ : ∃ U, ib u = U := ⟨_, rfl⟩
  obtain ⟨V, hV⟩ : ∃ V, ib v = V := ⟨_, rfl⟩
  obtain ⟨P, hP⟩ : ∃ P, ib (x + u) = P := ⟨_, rfl⟩
  obtain ⟨Q, hQ⟩ : ∃ Q, ib (y + v) = Q := ⟨_, rfl⟩
  rw [hX, hY] at k1
  rw [hU, hV] at k2
  rw [hP] at c1
  rw [hQ] at c2
  rw [hX, hY, hU, hV, hP, hQ] at cs
  rw [hX, hY, hU, hV]
  obtain ⟨r, hr⟩ : ∃ r, ofM (x + u) (y + v) = r := ⟨_, rfl⟩
  rw [hr] at ko hd
  clear g1 g2 hX hY hU hV hP hQ hr
  go_enter Tryz.func284, Tryz.ntmps284
  cases b1 with
  | false =>
    have hf := Lib.hid (show addM x y u v = (0, 0, 2) by rw [hd]; simp)
    clear hd
    go_wp2_with (go_at_call 150; go_must (refine (k1 _).mono ?_; rintro e w2 ⟨rfl, rfl⟩))
    go_ret2
    rw [hf.out, e0]
    exact ⟨rfl, rfl⟩
  | true =>
    cases b2 with
    | false =>
      have hf := Lib.hid (show addM x y u v = (0, 0, 2) by rw [hd]; simp)
      clear hd
      go_wp2_with (go_at_call 150; go_must (first
        | (with_reducible refine (k1 _).mono ?_; rintro e w2 ⟨rfl, rfl⟩)
        | (with_reducible refine (k2 _).mono ?_; rintro e w2 ⟨rfl, rfl⟩)))
      go_ret2
      rw [hf.out, e0]
      exact ⟨rfl, rfl⟩
    | true =>
      have hf := Lib.hid (show addM x y u v = r by rw [hd]; simp)
      clear hd
      go_wp2_with (first
        | (go_at_call 150; go_must (first
          | (with_reducible refine (k1 _).mono ?_; rintro e w2 ⟨rfl, rfl⟩)
          | (with_reducible refine (k2 _).mono ?_; rintro e w2 ⟨rfl, rfl⟩)))
        | (go_at_call 305; go_must (refine (ko _).mono ?_; rintro e w2 ⟨rfl, rfl⟩)))
      go_ret2
      rw [hf.out]
      exact ⟨rfl, rfl⟩

end Go.Proofs.YtiglgfonhdfpmaaGreat

/- The walks of the aggregates' value, falling, number, top. No condition but that numbers are of 64 bits. -/
set_option linter.unusedVariables false
set_option linter.unusedSimpArgs false
namespace Go.Proofs.YtiglgfonhdfpmaaGreat
open Go.RowKit

set_option maxHeartbeats 1000000 in
set_option maxRecDepth 100000 in
theorem agg_value (v : Int) (w : World) : Calls Tryz.prog 202 #[.int .i64 v] w fun e w' => e = .returned (.bool (valB v)) ∧ w' = w := by
  go_enter Tryz.func202, Tryz.ntmps202
  by_cases h1 : -1099511627776 ≤ v
  · have z1 : decide (-1099511627776 ≤ v) = true := by simpa using h1
    have hf := Lib.hid (show valB v = decide (v ≤ 1099511627776) by unfold valB; rw [z1, Bool.true_and])
    clear h1
    go_wp2
    go_ret
    rw [hf.out]
    exact ⟨rfl, rfl⟩
  · have z1 : decide (-1099511627776 ≤ v) = false := by simpa using h1
    have hf := Lib.hid (show valB v = false by unfold valB; rw [z1, Bool.false_and])
    clear h1
    go_wp2
    go_ret
    rw [hf.out]
    exact ⟨rfl, rfl⟩
theorem fall_grow {l : List Int} {i : Nat} {x y : Int} (hx : l[i + 1]? = some x) (hy : l[i]? = some y) (h : fallB (l.take (i + 1)) = true) (hv : valB x = true) (hxy : x ≤ y) : fallB (l.take (i + 1 + 1)) = true := by
  obtain ⟨h1, h2⟩ := fallB_iff.1 h
  rw [take_snoc' hx]
  refine fallB_iff.2 ⟨?_, fun z hz => ?_⟩
  · unfold Fall at *
    rw [take_snoc' hy] at h1 ⊢
    have h3 := List.pairwise_append.1 h1
    refine List.pairwise_append.2 ⟨h1, List.pairwise_singleton _ _, fun a ha b hb => ?_⟩
    obtain rfl := List.mem_singleton.1 hb
    rcases List.mem_append.1 ha with ha | ha
    · have := h3.2.2 a ha y (by simp); omega
    · obtain rfl := List.mem_singleton.1 ha; exact hxy
  · rcases List.mem_append.1 hz with hz | hz
    · exact h2 z hz
    · obtain rfl := List.mem_singleton.1 hz; exact hv
theorem fall_start {l : List Int} {x : Int} (hx : l[0]? = some x) (hv : valB x = true) : fallB (l.take 1) = true := by
  rw [take_snoc' hx]
  simpa [fallB] using hv
theorem fall_bad {l : List Int} {i : Nat} {x : Int} (hx : l[i]? = some x) (hv : valB x = false) : fallB l = false := by
  rw [← Bool.not_eq_true]
  intro h
  have := (fallB_iff.1 h).2 x (List.mem_of_getElem? hx)
  rw [hv] at this
  cases this
theorem fall_rise {l : List Int} {i : Nat} {x y : Int} (hx : l[i + 1]? = some x) (hy : l[i]? = some y) (h : y < x) : fallB l = false := by
  rw [← Bool.not_eq_true]
  intro hb
  have h1 := (fallB_iff.1 hb).1
  unfold Fall at h1
  obtain ⟨hi, e1⟩ := List.getElem?_eq_some_iff.1 hx
  obtain ⟨hj, e2⟩ := List.getElem?_eq_some_iff.1 hy
  have := List.pairwise_iff_getElem.1 h1 i (i + 1) hj hi (by omega)
  omega
set_option maxHeartbeats 2000000 in
set_option maxRecDepth 100000 in
theorem agg_falling {v : Value} {l : List Int} (w : World) (hv : IntsRO w v l) (hl : l.length ≤ 9223372036854775807) :
    Calls Tryz.prog 203 #[v] w fun e w' => e = .returned (.bool (fallB l)) ∧ w' = w := by
  obtain ⟨ao, cap, rfl, hcap, hint, hcell⟩ := hv
  go_enter Tryz.func203, Tryz.ntmps203
  go_upto_block 1 with (fail)
  go_loopw [7] (fun j wr => ∃ (i : Nat), i ≤ l.length ∧ j = .int .i64 i ∧ Hid (fallB (l.take i) = true) ∧ wr = w) (fun j _ => l.length - (intOf j).toNat)
  case atStart => exact ⟨0, by omega, rfl, Lib.hid (by rfl), rfl⟩
  case round =>
    obtain ⟨i, hi, rfl, hz, rfl⟩ := hrel
    by_cases hlt : i < l.length
    · obtain ⟨b, o, rfl, hb, hc⟩ := hcell (by rintro rfl; simp at hlt)
      obtain ⟨x, hx⟩ : ∃ x, l[i]? = some x := ⟨_, List.getElem?_eq_getElem hlt⟩
      have c0 := hc i x hx
      have hxh := Lib.hid hx
      have hxb := hint x (List.mem_of_getElem? hx)
      have kv := fun w' => agg_value x w'
      cases hvx : valB x with
      | false =>
        have hr := Lib.hid (fall_bad hx hvx)
        rw [hvx] at kv
        clear hx hc hcell hvx
        go_wp2_with (go_at_call 202; go_must (refine (kv _).mono ?_; rintro e w2 ⟨rfl, rfl⟩))
        go_ret
        rw [hr.out]
        exact ⟨rfl, rfl⟩
      | true =>
        rw [hvx] at kv
        have hvh := Lib.hid hvx
        cases i with
        | zero =>
          clear hx hc hcell hvx
          simp only [Nat.add_zero, Int.natCast_zero] at *
          go_wp2_with (go_at_call 202; go_must (refine (kv _).mono ?_; rintro e w2 ⟨rfl, rfl⟩))
          go_roundw
          case rel => exact ⟨1, by omega, by go_num, Lib.hid (fall_start hxh.out hvh.out), by first | rfl | trivial⟩
          case measure => simp [intOf]; omega
        | succ k =>
          obtain ⟨y, hy⟩ : ∃ y, l[k]? = some y := ⟨_, List.getElem?_eq_getElem (by omega)⟩
          have c1 := hc k y hy
          have hyh := Lib.hid hy
          have hyb := hint y (List.mem_of_getElem? hy)
          have n1 : ((k : Int) + 1 - 1).toNat = k := by omega
          by_cases hxy : y < x
          · have z1 : decide (y < x) = true := by simpa using hxy
            have hr := Lib.hid (fall_rise hx hy hxy)
            clear hx hy hc hcell hvx hxy
            go_wp2_with (go_at_call 202; go_must (refine (kv _).mono ?_; rintro e w2 ⟨rfl, rfl⟩))
            go_ret
            rw [hr.out]
            exact ⟨rfl, rfl⟩
          · have z1 : decide (y < x) = false := by simpa using hxy
            have hr := Lib.hid (fall_grow hx hy hz.out hvx (by omega))
            clear hx hy hc hcell hvx hxy
            go_wp2_with (go_at_call 202; go_must (refine (kv _).mono ?_; rintro e w2 ⟨rfl, rfl⟩))
            go_roundw
            case rel => exact ⟨k + 1 + 1, by omega, by go_num, hr, by first | rfl | trivial⟩
            case measure => simp [intOf]; omega
    · obtain rfl : i = l.length := by omega
      have hr := Lib.hid (show fallB l = true by have := hz.out; rwa [List.take_length] at this)
      go_wp2
      go_ret
      rw [hr.out]
      exact ⟨rfl, rfl⟩

end Go.Proofs.YtiglgfonhdfpmaaGreat

/- The walks of the aggregates' number and top. -/
set_option linter.unusedVariables false
set_option linter.unusedSimpArgs false
namespace Go.Proofs.YtiglgfonhdfpmaaGreat
open Go.RowKit

/-- An aggregate's cells: its top ones lie behind a header. -/
abbrev agC (g : Ag) (h : Value) : Array Value := #[.int .i64 g.n, .int .i64 g.a, h, .complex .f64 (ib g.x) (ib g.y)]
abbrev agV (g : Ag) (h : Value) : Value := .agg (agC g h)
set_option maxHeartbeats 2000000 in
set_option maxRecDepth 100000 in
theorem agg_number (q : Qry) (g : Ag) (hv : Value) (w : World) : Calls Tryz.prog 148 #[qyV q, agV g hv] w fun e w' => e = .returned (.bool (numB q g.a)) ∧ Below w.heap.size w w' := by
  obtain ⟨kd, sz, sl, lt, ag, kk⟩ := q
  obtain ⟨n, a, tp, x, y⟩ := g
  have kv := fun w' => agg_value a w'
  have hf0 : numB ⟨kd, sz, sl, lt, ag, kk⟩ a = if ag = 2 ∨ ag = 5 then decide (-4398046511104 ≤ a) && decide (a ≤ 4398046511104) else if ag = 3 ∨ ag = 4 then valB a else decide (a = 0) := rfl
  unfold qyV agV qyC agC
  simp only
  obtain ⟨X, hX⟩ : ∃ X, Value.complex .f64 (ib x) (ib y) = X := ⟨_, rfl⟩
  rw [hX]
  clear hX
  obtain ⟨b, hb⟩ : ∃ g, w.heap.size = g := ⟨_, rfl⟩
  obtain ⟨b2, hb2⟩ : ∃ b2, b + 1 = b2 := ⟨_, rfl⟩
  have H0 : St (fun _ => False) w _ [_] := (St.nil _ w).allocAt hb #[.int .i64 kd, .int .i64 sz, .int .i64 sl, .int .i64 lt, .int .i64 ag, .int .i64 kk] 23
  have H := H0.allocAt (B := b2) (by rw [← hb2, ← hb]; exact Array.size_push _) #[.int .i64 n, .int .i64 a, hv, X] 66
  obtain ⟨w1, hw1⟩ : ∃ w1, (w.alloc (.cells #[.int .i64 kd, .int .i64 sz, .int .i64 sl, .int .i64 lt, .int .i64 ag, .int .i64 kk] 23)).alloc (.cells #[.int .i64 n, .int .i64 a, hv, X] 66) = w1 := ⟨_, rfl⟩
  rw [hw1] at H
  have c4 := H.cell 1 4 rfl rfl
  have d1 := H.cell 0 1 rfl rfl
  go_enter Tryz.func148, Tryz.ntmps148
  go_upto_region 1 with (fail)
  try simp only [hb, hb2]
  try rw [hw1]
  clear hw1 hb hb2 H0
  have hk : ag = 2 ∨ ag = 5 ∨ ag = 3 ∨ ag = 4 ∨ (ag ≠ 2 ∧ ag ≠ 5 ∧ ag ≠ 3 ∧ ag ≠ 4) := by omega
  have hsum : ∀ (P : Bool), (P = decide (-4398046511104 ≤ a) && decide (a ≤ 4398046511104)) = (P = decide (-4398046511104 ≤ a) && decide (a ≤ 4398046511104)) := fun _ => rfl
  clear hsum
  rcases hk with rfl | rfl | rfl | rfl | ⟨h2, h5, h3, h4⟩
  case inl =>
    by_cases h1 : -4398046511104 ≤ a
    · have z1 : decide (-4398046511104 ≤ a) = true := by simpa using h1
      have hf := Lib.hid (show numB ⟨kd, sz, sl, lt, 2, kk⟩ a = decide (a ≤ 4398046511104) by rw [hf0, z1]; simp)
      clear h1 hf0
      go_wp2
      go_ret
      rw [hf.out]
      exact ⟨rfl, H.below (Nat.le_refl _) (fun _ h => h.elim)⟩
    · have z1 : decide (-4398046511104 ≤ a) = false := by simpa using h1
      have hf := Lib.hid (show numB ⟨kd, sz, sl, lt, 2, kk⟩ a = false by rw [hf0, z1]; simp)
      clear h1 hf0
      go_wp2
      go_ret
      rw [hf.out]
      exact ⟨rfl, H.below (Nat.le_refl _) (fun _ h => h.elim)⟩
  case inr.inl =>
    by_cases h1 : -4398046511104 ≤ a
    · have z1 : decide (-4398046511104 ≤ a) = true := by simpa using h1
      have hf := Lib.hid (show numB ⟨kd, sz, sl, lt, 5, kk⟩ a = decide (a ≤ 4398046511104) by rw [hf0, z1]; simp)
      clear h1 hf0
      go_wp2
      go_ret
      rw [hf.out]
      exact ⟨rfl, H.below (Nat.le_refl _) (fun _ h => h.elim)⟩
    · have z1 : decide (-4398046511104 ≤ a) = false := by simpa using h1
      have hf := Lib.hid (show numB ⟨kd, sz, sl, lt, 5, kk⟩ a = false by rw [hf0, z1]; simp)
      clear h1 hf0
      go_wp2
      go_ret
      rw [hf.out]
      exact ⟨rfl, H.below (Nat.le_refl _) (fun _ h => h.elim)⟩
  case inr.inr.inl =>
    have hf := Lib.hid (show numB ⟨kd, sz, sl, lt, 3, kk⟩ a = valB a by rw [hf0]; simp)
    clear hf0
    go_wp2_with (go_at_call 202; go_must (refine (kv _).mono ?_; rintro e w2 ⟨rfl, rfl⟩))
    go_ret
    rw [hf.out]
    exact ⟨rfl, H.below (Nat.le_refl _) (fun _ h => h.elim)⟩
  case inr.inr.inr.inl =>
    have hf := Lib.hid (show numB ⟨kd, sz, sl, lt, 4, kk⟩ a = valB a by rw [hf0]; simp)
    clear hf0
    go_wp2_with (go_at_call 202; go_must (refine (kv _).mono ?_; rintro e w2 ⟨rfl, rfl⟩))
    go_ret
    rw [hf.out]
    exact ⟨rfl, H.below (Nat.le_refl _) (fun _ h => h.elim)⟩
  case inr.inr.inr.inr =>
    have hf := Lib.hid (show numB ⟨kd, sz, sl, lt, ag, kk⟩ a = (a == 0) by rw [hf0, if_neg (by omega), if_neg (by omega), Bool.eq_iff_iff]; simp)
    have y2 : (ag == 2) = false := by simpa using h2
    have y5 : (ag == 5) = false := by simpa using h5
    have y3 : (ag == 3) = false := by simpa using h3
    have y4 : (ag == 4) = false := by simpa using h4
    clear hf0 h2 h5 h3 h4
    go_wp2
    go_ret
    rw [hf.out]
    exact ⟨rfl, H.below (Nat.le_refl _) (fun _ h => h.elim)⟩
set_option maxHeartbeats 2000000 in
set_option maxRecDepth 100000 in
theorem agg_top (q : Qry) (g : Ag) {hv : Value} (w : World) (hr : IntsRO w hv g.top) (hl : g.top.length ≤ 9223372036854775807) : Calls Tryz.prog 149 #[qyV q, agV g hv] w fun e w' => e = .returned (.bool (topB q g.n g.top)) ∧ Below w.heap.size w w' := by
  have hr0 := hr
  obtain ⟨ad, cap, rfl, -⟩ := hr
  obtain ⟨kd, sz, sl, lt, ag, kk⟩ := q
  obtain ⟨n, a, tp, x, y⟩ := g
  simp only at hr0 hl
  have hf0 : topB ⟨kd, sz, sl, lt, ag, kk⟩ n tp = if ag = 6 then decide ((tp.length : Int) = min n kk) && fallB tp else decide (tp = []) := rfl
  unfold qyV agV qyC agC
  simp only
  obtain ⟨X, hX⟩ : ∃ X, Value.complex .f64 (ib x) (ib y) = X := ⟨_, rfl⟩
  rw [hX]
  clear hX
  obtain ⟨m, hm⟩ : ∃ m, min n kk = m := ⟨_, rfl⟩
  have hm2 : (if n < kk then n else kk) = m := by rw [← hm]; split <;> omega
  obtain ⟨b, hb⟩ : ∃ g, w.heap.size = g := ⟨_, rfl⟩
  obtain ⟨b2, hb2⟩ : ∃ b2, b + 1 = b2 := ⟨_, rfl⟩
  have H0 : St (fun _ => False) w _ [_] := (St.nil _ w).allocAt hb #[.int .i64 kd, .int .i64 sz, .int .i64 sl, .int .i64 lt, .int .i64 ag, .int .i64 kk] 23
  have H := H0.allocAt (B := b2) (by rw [← hb2, ← hb]; exact Array.size_push _) #[.int .i64 n, .int .i64 a, .slice ad tp.length cap, X] 66
  obtain ⟨w1, hw1⟩ : ∃ w1, (w.alloc (.cells #[.int .i64 kd, .int .i64 sz, .int .i64 sl, .int .i64 lt, .int .i64 ag, .int .i64 kk] 23)).alloc (.cells #[.int .i64 n, .int .i64 a, .slice ad tp.length cap, X] 66) = w1 := ⟨_, rfl⟩
  rw [hw1] at H
  have kf := agg_falling w1 (hr0.later H.kept) hl
  have c4 := H.cell 1 4 rfl rfl
  have c5 := H.cell 1 5 rfl rfl
  have d0 := H.cell 0 0 rfl rfl
  have d2 := H.cell 0 2 rfl rfl
  go_enter Tryz.func149, Tryz.ntmps149
  go_upto_region 1 with (fail)
  try simp only [hb, hb2]
  try rw [hw1]
  clear hw1 hb hb2 H0 hr0
  by_cases h6 : ag = 6
  · have y1 : (ag == 6) = true := by simpa using h6
    have y2 : (ag != 6) = false := by simpa using h6
    by_cases hs : (tp.length : Int) = m
    · have z1 : ((tp.length : Int) == m) = true := by simpa using hs
      have hf := Lib.hid (show topB ⟨kd, sz, sl, lt, ag, kk⟩ n tp = fallB tp by rw [hf0, if_pos h6, hm, hs]; simp)
      clear h6 hf0 hs
      go_wp2_with (go_at_call 203; go_must (with_reducible refine kf.mono ?_; rintro e w2 ⟨rfl, rfl⟩))
      go_ret
      rw [hf.out]
      exact ⟨rfl, H.below (Nat.le_refl _) (fun _ h => h.elim)⟩
    · have z1 : ((tp.length : Int) == m) = false := by simpa using hs
      have hf := Lib.hid (show topB ⟨kd, sz, sl, lt, ag, kk⟩ n tp = false by rw [hf0, if_pos h6, hm]; simp [hs])
      clear h6 hf0 hs
      go_wp2
      go_ret
      rw [hf.out]
      exact ⟨rfl, H.below (Nat.le_refl _) (fun _ h => h.elim)⟩
  · have y1 : (ag == 6) = false := by simpa using h6
    have y2 : (ag != 6) = true := by simpa using h6
    have hf := Lib.hid (show topB ⟨kd, sz, sl, lt, ag, kk⟩ n tp = ((tp.length : Int) == 0) by
      rw [hf0, if_neg h6, Bool.eq_iff_iff]
      simp)
    clear h6 hf0
    go_wp2
    go_ret
    rw [hf.out]
    exact ⟨ret_bool (by simp), H.below (Nat.le_refl _) (fun _ h => h.elim)⟩

end Go.Proofs.YtiglgfonhdfpmaaGreat
