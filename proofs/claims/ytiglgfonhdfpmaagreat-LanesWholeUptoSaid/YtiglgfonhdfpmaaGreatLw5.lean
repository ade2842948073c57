import Derived.Test.YtiglgfonhdfpmaaGreatLw1
import Derived.Test.YtiglgfonhdfpmaaGreatLw2
import Derived.Test.YtiglgfonhdfpmaaGreatLw3
import Derived.Test.YtiglgfonhdfpmaaGreatLw4
import Derived.Deep.CutBlock
import Derived.Lib.ItoaNum
import Derived.Lib.AtoiAll
import Derived.Lib.Split
import Derived.Lib.SplitLaws
import Derived.Lib.IndexLaws
import Derived.Lib.CountLaws
import Derived.Laws.ComplexArith
import Derived.Laws.Externs
/- What a step of an operator does, as plain data: an event's windows one by one, a mark, runs. Plain definitions and first laws, no program in sight. -/
set_option linter.unusedVariables false
set_option linter.unusedSimpArgs false
namespace Go.Proofs.YtiglgfonhdfpmaaGreat

/-- The panes of some windows, joined in their order; and how often the window's own pane was fired. None: a number runs over. -/
def gathM (q : Qry) (x : Wd) (old : Wd → Bool) : List Pn → Ag × Int → Option (Ag × Int)
  | [], s => some s
  | p :: r, s => if old p.w = true then (match mergeM q s.1 p.g with | none => none | some g => gathM q x old r (g, if p.w = x then p.round else s.2)) else gathM q x old r s
/-- A value put into what a window's pane knows: the pane, and what comes out. -/
def putM (q : Qry) (mark : Int) (x : Wd) (g : Ag) (r v : Int) : Option (Pn × List Ot) :=
  match mergeM q g (singleM q v) with
  | none => none
  | some a => if x.ripe mark = true then (if r = 1073741824 then none else some (⟨x, a, r + 1⟩, [⟨false, itm00, x, r + 1, valueM q a⟩])) else some (⟨x, a, r⟩, [])
def placeP (l : List Pn) (x : Wd) : Nat := posW (l.map (·.w)) x
def withP (l : List Pn) (p : Pn) : List Pn := l.take (placeP l p.w) ++ p :: l.drop (placeP l p.w)
def layM (q : Qry) (mark : Int) (x : Wd) (old : Wd → Bool) (v : Int) (l : List Pn) : Option (List Pn × List Ot) :=
  match gathM q x old l (Ag.zero, 0) with
  | none => none
  | some s => match putM q mark x s.1 s.2 v with
    | none => none
    | some y => some (withP (l.filter fun p => !old p.w) y.1, y.2)
/-- Which window an event's window becomes among these, and which give way. -/
def becM (q : Qry) (l : List Pn) (own : Wd) : Wd := if q.kind = 3 then becOf (l.map (·.w)) own else own
def oldM (q : Qry) (own : Wd) (y : Wd) : Bool := if q.kind = 3 then y.joins own else decide (y = own)
structure EvS where
  panes : List Pn
  outs : List Ot
  taken : Bool
def laysM (q : Qry) (mark v : Int) : List Wd → EvS → Option EvS
  | [], s => some s
  | own :: r, s =>
    if (becM q s.panes own).gone q mark = true then laysM q mark v r s
    else match layM q mark (becM q s.panes own) (oldM q own) v s.panes with
      | none => none
      | some y => laysM q mark v r ⟨y.1, s.outs ++ y.2, true⟩
def lateO (x : Itm) : Ot := ⟨true, x, wd000, 0, []⟩
structure StepR where
  s : Stt
  outs : List Ot
  e : Int
def eventM (q : Qry) (s : Stt) (x : Itm) : StepR :=
  match laysM q s.mark x.value (winsOf q x.key x.time) ⟨s.panes, [], false⟩ with
  | none => ⟨s, [], 20⟩
  | some y => if 256 < y.panes.length then ⟨s, [], 30⟩ else ⟨⟨s.mark, y.panes⟩, if y.taken = true then y.outs else y.outs ++ [lateO x], 0⟩
/-- Panes in the order in which they fire. -/
def insC (p : Pn) : List Pn → List Pn
  | [] => [p]
  | y :: r => if y.w.cmp p.w < 0 then y :: insC p r else p :: y :: r
def sortC : List Pn → List Pn
  | [] => []
  | p :: r => insC p (sortC r)
def Pn.now (m : Int) (p : Pn) : Bool := decide (p.round = 0) && p.w.ripe m
def Pn.fire (m : Int) (p : Pn) : Pn := if p.now m = true then { p with round := 1 } else p
def fireO (q : Qry) (p : Pn) : Ot := ⟨false, itm00, p.w, 1, valueM q p.g⟩
def markM (q : Qry) (s : Stt) (m : Int) : Stt × List Ot :=
  if m ≤ s.mark then (s, []) else (⟨m, (s.panes.map (Pn.fire m)).filter fun p => !p.w.gone q m⟩, (sortC (s.panes.filter (Pn.now m))).map (fireO q))
def stepM (q : Qry) (s : Stt) (x : Itm) : StepR :=
  if (s.right q && x.right) = true then (if x.kind = 2 then ⟨(markM q s x.time).1, (markM q s x.time).2, 0⟩ else eventM q s x) else ⟨s, [], 2⟩
structure RunR where
  s : Stt
  outs : List Ot
  n : Nat
  e : Int
def runsM (q : Qry) : List Itm → RunR → RunR
  | [], r => r
  | x :: l, r => if (stepM q r.s x).e = 0 then runsM q l ⟨(stepM q r.s x).s, r.outs ++ (stepM q r.s x).outs, r.n + 1, 0⟩ else ⟨r.s, r.outs, r.n, (stepM q r.s x).e⟩
def stt0 : Stt := ⟨-1, []⟩

end Go.Proofs.YtiglgfonhdfpmaaGreat

/- The walks of the queries' Right, the program's and the document's. No condition but that numbers are of 64 bits. -/
set_option linter.unusedVariables false
set_option linter.unusedSimpArgs false
namespace Go.Proofs.YtiglgfonhdfpmaaGreat
open Go.RowKit

abbrev qyC (q : Qry) : Array Value := #[.int .i64 q.kind, .int .i64 q.size, .int .i64 q.slide, .int .i64 q.late, .int .i64 q.agg, .int .i64 q.k]
abbrev qyV (q : Qry) : Value := .agg (qyC q)
set_option maxHeartbeats 1000000 in
set_option maxRecDepth 100000 in
theorem query_within (n lo hi : Int) (w : World) : Calls Tryz.prog 108 #[.int .i64 n, .int .i64 lo, .int .i64 hi] w fun e w' => e = .returned (.bool (decide (lo ≤ n ∧ n ≤ hi))) ∧ w' = w := by
  by_cases h1 : lo ≤ n
  · have z1 : decide (lo ≤ n) = true := by simpa using h1
    have hf := Lib.hid (show decide (lo ≤ n ∧ n ≤ hi) = decide (n ≤ hi) by simp [h1])
    clear h1
    go_enter Tryz.func108, Tryz.ntmps108
    go_wp2
    go_ret
    rw [hf.out]
    exact ⟨rfl, rfl⟩
  · have z1 : decide (lo ≤ n) = false := by simpa using h1
    have hf := Lib.hid (show decide (lo ≤ n ∧ n ≤ hi) = false by simp [h1])
    clear h1
    go_enter Tryz.func108, Tryz.ntmps108
    go_wp2
    go_ret
    rw [hf.out]
    exact ⟨rfl, rfl⟩
set_option maxHeartbeats 1000000 in
set_option maxRecDepth 100000 in
theorem query_slides (q : Qry) (hs : q.size ≤ 1073741824) (w : World) : Calls Tryz.prog 109 #[qyV q] w fun e w' => e = .returned (.bool q.slides) ∧ Below w.heap.size w w' := by
  obtain ⟨kd, sz, sl, lt, ag, kk⟩ := q
  simp only at hs
  obtain ⟨b, hb⟩ : ∃ g, w.heap.size = g := ⟨_, rfl⟩
  have H : St (fun _ => False) w (w.alloc (.cells (qyC ⟨kd, sz, sl, lt, ag, kk⟩) 23)) [Blk b (qyC ⟨kd, sz, sl, lt, ag, kk⟩) 23] := (St.nil _ w).allocAt hb _ _
  obtain ⟨w1, hw1⟩ : ∃ w1, w.alloc (.cells (qyC ⟨kd, sz, sl, lt, ag, kk⟩) 23) = w1 := ⟨_, rfl⟩
  rw [hw1] at H
  have c0 := H.cell 0 0 rfl rfl
  have c1 := H.cell 0 1 rfl rfl
  have c2 := H.cell 0 2 rfl rfl
  have kw := fun w' => query_within sl 1 sz w'
  unfold qyV qyC at *
  simp only at hw1
  go_enter Tryz.func109, Tryz.ntmps109
  go_upto_region 1 with (fail)
  try simp only [hb]
  try rw [hw1]
  clear hw1 hb
  by_cases h2 : kd = 2
  · have y1 : (kd == 2) = true := by simpa using h2
    have y2 : (kd != 2) = false := by simpa using h2
    have hf := Lib.hid (show Qry.slides ⟨kd, sz, sl, lt, ag, kk⟩ = (decide (1 ≤ sl ∧ sl ≤ sz) && decide (sz ≤ 16 * sl)) by
      unfold Qry.slides
      simp only [h2, if_true]
      by_cases ha : 1 ≤ sl <;> by_cases hb : sl ≤ sz <;> simp [ha, hb])
    by_cases h3 : 1 ≤ sl ∧ sl ≤ sz
    · have z3 : decide (1 ≤ sl ∧ sl ≤ sz) = true := by simpa using h3
      have v1 : IntKind.i64.wrap (16 * sl) = 16 * sl := by rw [IntKind.wrap_i64]; omega
      rw [z3] at kw
      simp only [z3, Bool.true_and] at hf
      clear h2 z3 h3
      go_wp2_with (go_at_call 108; go_must (refine (kw _).mono ?_; rintro e w2 ⟨rfl, rfl⟩))
      go_ret
      rw [hf.out]
      exact ⟨rfl, H.below (Nat.le_refl _) (fun _ h => h.elim)⟩
    · have z3 : decide (1 ≤ sl ∧ sl ≤ sz) = false := by simpa using h3
      rw [z3] at kw
      simp only [z3, Bool.false_and] at hf
      clear h2 z3 h3
      go_wp2_with (go_at_call 108; go_must (refine (kw _).mono ?_; rintro e w2 ⟨rfl, rfl⟩))
      go_ret
      rw [hf.out]
      exact ⟨rfl, H.below (Nat.le_refl _) (fun _ h => h.elim)⟩
  · have y1 : (kd == 2) = false := by simpa using h2
    have hf := Lib.hid (show Qry.slides ⟨kd, sz, sl, lt, ag, kk⟩ = (sl == 0) by
      unfold Qry.slides
      simp only [h2, if_false]
      rw [Bool.eq_iff_iff]
      simp)
    clear h2
    go_wp2
    go_ret
    rw [hf.out]
    exact ⟨rfl, H.below (Nat.le_refl _) (fun _ h => h.elim)⟩

set_option maxHeartbeats 4000000 in
set_option maxRecDepth 100000 in
theorem query_right (q : Qry) (w : World) : Calls Tryz.prog 60 #[qyV q] w fun e w' => e = .returned (.bool q.right) ∧ Below w.heap.size w w' := by
  have kS := fun (h : q.size ≤ 1073741824) w' => query_slides q h w'
  obtain ⟨kd, sz, sl, lt, ag, kk⟩ := q
  simp only at kS
  obtain ⟨b, hb⟩ : ∃ g, w.heap.size = g := ⟨_, rfl⟩
  have H : St (fun _ => False) w (w.alloc (.cells (qyC ⟨kd, sz, sl, lt, ag, kk⟩) 23)) [Blk b (qyC ⟨kd, sz, sl, lt, ag, kk⟩) 23] := (St.nil _ w).allocAt hb _ _
  obtain ⟨w1, hw1⟩ : ∃ w1, w.alloc (.cells (qyC ⟨kd, sz, sl, lt, ag, kk⟩) 23) = w1 := ⟨_, rfl⟩
  rw [hw1] at H
  obtain ⟨K, hK⟩ : ∃ K : Int, (if ag = 6 then (8 : Int) else 0) = K := ⟨_, rfl⟩
  obtain ⟨K1, hK1⟩ : ∃ K1 : Int, (if ag = 6 then (1 : Int) else 0) = K1 := ⟨_, rfl⟩
  have hmin : min K 1 = K1 := by rw [← hK, ← hK1]; split <;> rfl
  have hcond : (if K < 1 then K else 1) = K1 := by rw [← hK, ← hK1]; split <;> simp
  have k1 := fun w' => query_within kd 1 3 w'
  have k2 := fun w' => query_within sz 1 1073741824 w'
  have k4 := fun w' => query_within lt 0 1073741824 w'
  have k5 := fun w' => query_within ag 1 7 w'
  have k6 := fun w' => query_within kk K1 K w'
  have hf0 : Qry.right ⟨kd, sz, sl, lt, ag, kk⟩ = (decide (1 ≤ kd ∧ kd ≤ 3) && decide (1 ≤ sz ∧ sz ≤ 1073741824) && Qry.slides ⟨kd, sz, sl, lt, ag, kk⟩ && decide (0 ≤ lt ∧ lt ≤ 1073741824) && decide (1 ≤ ag ∧ ag ≤ 7) && decide (K1 ≤ kk ∧ kk ≤ K)) := by
    unfold Qry.right Qry.kB
    simp only
    congr 1
    rw [← hK, ← hK1]
    by_cases h : ag = 6
    · simp only [h, if_true]
      by_cases h1 : 1 ≤ kk <;> by_cases h2 : kk ≤ 8 <;> simp [h1, h2]
    · simp only [h, if_false]
      rw [Bool.eq_iff_iff]
      simp
      omega
  have hz2 : decide (1 ≤ sz ∧ sz ≤ 1073741824) = true → sz ≤ 1073741824 := fun h => (of_decide_eq_true h).2
  obtain ⟨b1, e1⟩ : ∃ b1, decide (1 ≤ kd ∧ kd ≤ 3) = b1 := ⟨_, rfl⟩
  obtain ⟨b2, e2⟩ : ∃ b2, decide (1 ≤ sz ∧ sz ≤ 1073741824) = b2 := ⟨_, rfl⟩
  obtain ⟨b3, e3⟩ : ∃ b3, Qry.slides ⟨kd, sz, sl, lt, ag, kk⟩ = b3 := ⟨_, rfl⟩
  obtain ⟨b4, e4⟩ : ∃ b4, decide (0 ≤ lt ∧ lt ≤ 1073741824) = b4 := ⟨_, rfl⟩
  obtain ⟨b5, e5⟩ : ∃ b5, decide (1 ≤ ag ∧ ag ≤ 7) = b5 := ⟨_, rfl⟩
  obtain ⟨b6, e6⟩ : ∃ b6, decide (K1 ≤ kk ∧ kk ≤ K) = b6 := ⟨_, rfl⟩
  rw [e1] at k1
  rw [e2] at k2 hz2
  rw [e4] at k4
  rw [e5] at k5
  rw [e6] at k6
  simp only [e3] at kS
  rw [e1, e2, e3, e4, e5, e6] at hf0
  have hf := Lib.hid hf0
  clear hf0 e1 e2 e3 e4 e5 e6
  have c0 := H.cell 0 0 rfl rfl
  have c1 := H.cell 0 1 rfl rfl
  have c2 := H.cell 0 2 rfl rfl
  have c3 := H.cell 0 3 rfl rfl
  have c4 := H.cell 0 4 rfl rfl
  have c5 := H.cell 0 5 rfl rfl
  unfold qyV qyC at *
  simp only at hw1
  have hca := Lib.hid (show (ag = 6 → K = 8) ∧ (ag ≠ 6 → K = 0) from ⟨fun h => by rw [← hK, if_pos h], fun h => by rw [← hK, if_neg h]⟩)
  clear hK hK1
  go_enter Tryz.func60, Tryz.ntmps60
  go_upto_region 1 with (fail)
  try simp only [hb]
  try rw [hw1]
  clear hw1 hb
  go_upto_if 6 with (fail)
  go_cut [3] from 6 to 7 (fun x wx => x = .int .i64 K ∧ wx = w1)
  case first =>
    by_cases h6 : ag = 6
    · have y1 : (ag == 6) = true := by simpa using h6
      have q1 := Lib.hid (hca.out.1 h6)
      clear h6
      go_wp2
      go_meet
      rw [q1.out]
      exact ⟨rfl, rfl⟩
    · have y1 : (ag == 6) = false := by simpa using h6
      have q1 := Lib.hid (hca.out.2 h6)
      clear h6
      go_wp2
      go_meet
      rw [q1.out]
      exact ⟨rfl, rfl⟩
  case rest =>
  obtain ⟨rfl, e⟩ := hcut
  rw [e]
  clear e
  have hk : b1 = false ∨ (b1 = true ∧ b2 = false) ∨ (b1 = true ∧ b2 = true ∧ b3 = false) ∨ (b1 = true ∧ b2 = true ∧ b3 = true ∧ b4 = false) ∨ (b1 = true ∧ b2 = true ∧ b3 = true ∧ b4 = true ∧ b5 = false) ∨ (b1 = true ∧ b2 = true ∧ b3 = true ∧ b4 = true ∧ b5 = true) := by
    cases b1 <;> cases b2 <;> cases b3 <;> cases b4 <;> cases b5 <;> simp
  have kS2 := fun (h : b2 = true) => kS (hz2 h)
  clear kS hz2
  rcases hk with rfl | ⟨rfl, rfl⟩ | ⟨rfl, rfl, rfl⟩ | ⟨rfl, rfl, rfl, rfl⟩ | ⟨rfl, rfl, rfl, rfl, rfl⟩ | ⟨rfl, rfl, rfl, rfl, rfl⟩
  all_goals
    go_wp2_with (first
      | (go_at_call 108; go_must (first
          | (with_reducible refine (k1 _).mono ?_; rintro e w2 ⟨rfl, rfl⟩)
          | (with_reducible refine (k2 _).mono ?_; rintro e w2 ⟨rfl, rfl⟩)
          | (with_reducible refine (k4 _).mono ?_; rintro e w2 ⟨rfl, rfl⟩)
          | (with_reducible refine (k5 _).mono ?_; rintro e w2 ⟨rfl, rfl⟩)
          | (with_reducible refine (k6 _).mono ?_; rintro e w2 ⟨rfl, rfl⟩)))
      | (go_at_call 109; go_must (refine (St.callPast (kS2 (by trivial) _) H).mono ?_; rintro e w2 ⟨rfl, H2⟩; clear c0 c1 c2 c3 c4 c5; have c3 := H2.cell 0 3 rfl rfl; have c4 := H2.cell 0 4 rfl rfl; have c5 := H2.cell 0 5 rfl rfl)))
    go_ret
    rw [hf.out]
    first
      | exact ⟨ret_bool (by simp), H2.below (Nat.le_refl _) (fun _ h => h.elim)⟩
      | exact ⟨ret_bool (by simp), H.below (Nat.le_refl _) (fun _ h => h.elim)⟩

end Go.Proofs.YtiglgfonhdfpmaaGreat

/- The walks of the library's Trunc at whole numbers, and of gauss: whole, Right, within, Of, Parts, Turn, Add. Condition: the numbers' size. -/
set_option linter.unusedVariables false
set_option linter.unusedSimpArgs false
namespace Go.Proofs.YtiglgfonhdfpmaaGreat
open Go.RowKit

theorem integral_ib {n : Int} (hn : n.natAbs < 2 ^ 53) : FloatKind.f64.encode ((Ieee.double.read (ib n)).integral .zero) = ib n := by
  obtain ⟨e, h1⟩ := rep_read hn
  rw [h1]
  unfold Ieee.Datum.integral
  simp only
  rw [show (-(e : Int)).toNat = 0 by omega, Nat.shiftLeft_zero, show (- -(e : Int)).toNat = e by omega, cut_zero]
  rfl
theorem toIntegral_num {nm : String} {way : Ieee.Toward} {x : Nat} {s : Bool} {m : Nat} {p : Int} (h : FloatKind.f64.decode x = .number s m p) :
    Extern.MathFloor.toIntegral nm way #[.float .f64 x] = pure (.float .f64 (FloatKind.f64.encode (Ieee.Datum.integral way (.number s m p)))) := by
  delta Extern.MathFloor.toIntegral
  generalize FloatKind.f64.decode = D at *
  conv => lhs; whnf
  rw [h]
theorem run_trunc {n : Int} (hn : n.natAbs < 2 ^ 53) (w : World) : (callFunc 291 #[.float .f64 (ib n)]).run Tryz.prog w = .ok (.value (.float .f64 (ib n))) w := by
  rw [run_callFunc_extern Tryz.func291 (by kernel_rfl) (by kernel_rfl) (by kernel_rfl) (e := Extern.MathFloor.toIntegral ("math.arch" ++ "Trunc") .zero) (by kernel_rfl)]
  have hi := integral_ib hn
  obtain ⟨e, h1⟩ := rep_read hn
  rw [h1] at hi
  rw [toIntegral_num (show FloatKind.f64.decode (ib n) = _ from h1), hi]
  rfl
theorem ge_ib {a b : Int} (ha : a.natAbs < 2 ^ 53) (hb : b.natAbs < 2 ^ 53) : (FloatKind.f64.format.order (ib a) (ib b) = some Ordering.gt ∨ FloatKind.f64.format.order (ib a) (ib b) = some Ordering.eq) ↔ b ≤ a := by
  have h : FloatKind.f64.format.order (ib a) (ib b) = some (compare a b) := order_ib ha hb
  rw [h]
  show (some (if a < b then Ordering.lt else if a = b then Ordering.eq else Ordering.gt) = _ ∨ some (if a < b then Ordering.lt else if a = b then Ordering.eq else Ordering.gt) = _) ↔ _
  split
  · simp; omega
  · split
    · simp; omega
    · simp; omega
theorem le_ib {a b : Int} (ha : a.natAbs < 2 ^ 53) (hb : b.natAbs < 2 ^ 53) : (FloatKind.f64.format.order (ib a) (ib b) = some Ordering.lt ∨ FloatKind.f64.format.order (ib a) (ib b) = some Ordering.eq) ↔ a ≤ b := by
  have h : FloatKind.f64.format.order (ib a) (ib b) = some (compare a b) := order_ib ha hb
  rw [h]
  show (some (if a < b then Ordering.lt else if a = b then Ordering.eq else Ordering.gt) = _ ∨ some (if a < b then Ordering.lt else if a = b then Ordering.eq else Ordering.gt) = _) ↔ _
  split
  · simp; omega
  · split
    · simp; omega
    · simp; omega
theorem eq_ib {a b : Int} (ha : a.natAbs < 2 ^ 53) (hb : b.natAbs < 2 ^ 53) : FloatKind.f64.format.order (ib a) (ib b) = some Ordering.eq ↔ a = b := by
  have h : FloatKind.f64.format.order (ib a) (ib b) = some (compare a b) := order_ib ha hb
  rw [h]
  show some (if a < b then Ordering.lt else if a = b then Ordering.eq else Ordering.gt) = _ ↔ _
  split
  · simp; omega
  · split
    · simp; omega
    · simp; omega
set_option maxHeartbeats 1000000 in
set_option maxRecDepth 100000 in
theorem math_trunc {n : Int} (hn : n.natAbs < 2 ^ 53) (w : World) : Calls Tryz.prog 258 #[.float .f64 (ib n)] w fun e w' => e = .returned (.float .f64 (ib n)) ∧ w' = w := by
  have hx := run_trunc hn w
  go_enter Tryz.func258, Tryz.ntmps258
  go_wp2
  go_ret
  exact ⟨rfl, rfl⟩
theorem ib_most : ib 1073741824 = 4742290407621132288 := by decide +kernel
theorem ib_least : ib (-1073741824) = 13965662444475908096 := by decide +kernel
theorem ib_one : ib 1 = 4607182418800017408 := by decide +kernel
theorem ib_neg : ib (-1) = 13830554455654793216 := by decide +kernel
set_option maxHeartbeats 1000000 in
set_option maxRecDepth 100000 in
theorem gauss_whole {n : Int} (hn : n.natAbs < 2 ^ 53) (w : World) : Calls Tryz.prog 204 #[.float .f64 (ib n)] w fun e w' => e = .returned (.bool (partB n)) ∧ w' = w := by
  have kt := fun w' => math_trunc hn w'
  have o1 := le_ib (a := n) (b := 1073741824) hn (by decide)
  have o2 := ge_ib (a := n) (b := -1073741824) hn (by decide)
  have o3 := (eq_ib (a := n) (b := n) hn hn).2 rfl
  have o4 : (FloatKind.f64.format.order (ib n) (ib n) == some Ordering.eq) = true := by rw [o3]; rfl
  rw [ib_most] at o1
  rw [ib_least] at o2
  go_enter Tryz.func204, Tryz.ntmps204
  by_cases h1 : -1073741824 ≤ n
  · have z1 : (FloatKind.f64.format.order (ib n) 13965662444475908096 == some Ordering.gt || FloatKind.f64.format.order (ib n) 13965662444475908096 == some Ordering.eq) = true := by rw [Bool.or_eq_true, beq_iff_eq, beq_iff_eq]; exact o2.2 h1
    by_cases h2 : n ≤ 1073741824
    · have z2 : (FloatKind.f64.format.order (ib n) 4742290407621132288 == some Ordering.lt || FloatKind.f64.format.order (ib n) 4742290407621132288 == some Ordering.eq) = true := by rw [Bool.or_eq_true, beq_iff_eq, beq_iff_eq]; exact o1.2 h2
      have hf := Lib.hid (show partB n = true from partB_iff.2 ⟨h1, h2⟩)
      clear o1 o2 h1 h2
      go_wp2_with (go_at_call 258; go_must (refine (kt _).mono ?_; rintro e w2 ⟨rfl, rfl⟩))
      go_ret
      rw [hf.out]
      exact ⟨rfl, rfl⟩
    · have z2 : (FloatKind.f64.format.order (ib n) 4742290407621132288 == some Ordering.lt || FloatKind.f64.format.order (ib n) 4742290407621132288 == some Ordering.eq) = false := by rw [← Bool.not_eq_true, Bool.or_eq_true, beq_iff_eq, beq_iff_eq]; exact fun h => h2 (o1.1 h)
      have hf := Lib.hid (show partB n = false by unfold partB; simp; omega)
      clear o1 o2 h1 h2 o3
      go_wp2
      go_ret
      rw [hf.out]
      exact ⟨rfl, rfl⟩
  · have z1 : (FloatKind.f64.format.order (ib n) 13965662444475908096 == some Ordering.gt || FloatKind.f64.format.order (ib n) 13965662444475908096 == some Ordering.eq) = false := by rw [← Bool.not_eq_true, Bool.or_eq_true, beq_iff_eq, beq_iff_eq]; exact fun h => h1 (o2.1 h)
    have hf := Lib.hid (show partB n = false by unfold partB; simp; omega)
    clear o1 o2 h1 o3
    go_wp2
    go_ret
    rw [hf.out]
    exact ⟨rfl, rfl⟩

set_option maxHeartbeats 1000000 in
set_option maxRecDepth 100000 in
theorem gauss_right {x y : Int} (hx : x.natAbs < 2 ^ 53) (hy : y.natAbs < 2 ^ 53) (w : World) : Calls Tryz.prog 150 #[.complex .f64 (ib x) (ib y)] w fun e w' => e = .returned (.bool (partB x && partB y)) ∧ w' = w := by
  have k1 := fun w' => gauss_whole hx w'
  have k2 := fun w' => gauss_whole hy w'
  obtain ⟨b1, e1⟩ : ∃ b, partB x = b := ⟨_, rfl⟩
  obtain ⟨b2, e2⟩ : ∃ b, partB y = b := ⟨_, rfl⟩
  obtain ⟨X, hX⟩ : ∃ X, ib x = X := ⟨_, rfl⟩
  obtain ⟨Y, hY⟩ : ∃ Y, ib y = Y := ⟨_, rfl⟩
  rw [e1, hX] at k1
  rw [e2, hY] at k2
  rw [e1, e2, hX, hY]
  clear e1 e2 hX hY
  go_enter Tryz.func150, Tryz.ntmps150
  cases b1 with
  | false =>
    go_wp2_with (go_at_call 204; go_must (refine (k1 _).mono ?_; rintro e w2 ⟨rfl, rfl⟩))
    go_ret
    exact ⟨rfl, rfl⟩
  | true =>
    go_wp2_with (go_at_call 204; go_must (first
      | (with_reducible refine (k1 _).mono ?_; rintro e w2 ⟨rfl, rfl⟩)
      | (with_reducible refine (k2 _).mono ?_; rintro e w2 ⟨rfl, rfl⟩)))
    go_ret
    exact ⟨by simp, rfl⟩
set_option maxHeartbeats 1000000 in
set_option maxRecDepth 100000 in
theorem gauss_within (n : Int) (w : World) : Calls Tryz.prog 317 #[.int .i64 n] w fun e w' => e = .returned (.bool (partB n)) ∧ w' = w := by
  by_cases h1 : -1073741824 ≤ n
  · have z1 : decide (-1073741824 ≤ n) = true := by simpa using h1
    have hf := Lib.hid (show partB n = decide (n ≤ 1073741824) by unfold partB; rw [z1, Bool.true_and])
    clear h1
    go_enter Tryz.func317, Tryz.ntmps317
    go_wp2
    go_ret
    rw [hf.out]
    exact ⟨rfl, rfl⟩
  · have z1 : decide (-1073741824 ≤ n) = false := by simpa using h1
    have hf := Lib.hid (show partB n = false by unfold partB; rw [z1, Bool.false_and])
    clear h1
    go_enter Tryz.func317, Tryz.ntmps317
    go_wp2
    go_ret
    rw [hf.out]
    exact ⟨rfl, rfl⟩
/-- A pair of parts made a complex number, or an error. -/
def ofM (x y : Int) : Int × Int × Int := if partB x = true ∧ partB y = true then (x, y, 0) else (0, 0, 20)
set_option maxHeartbeats 1000000 in
set_option maxRecDepth 100000 in
theorem gauss_of (x y : Int) (w : World) : Calls Tryz.prog 305 #[.int .i64 x, .int .i64 y] w fun e w' => e = .returned (.tuple #[.complex .f64 (ib (ofM x y).1) (ib (ofM x y).2.1), .int .i64 (ofM x y).2.2]) ∧ w' = w := by
  have k1 := fun w' => gauss_within x w'
  have k2 := fun w' => gauss_within y w'
  obtain ⟨b1, e1⟩ : ∃ b, partB x = b := ⟨_, rfl⟩
  obtain ⟨b2, e2⟩ : ∃ b, partB y = b := ⟨_, rfl⟩
  have hd : ofM x y = if b1 = true ∧ b2 = true then (x, y, 0) else (0, 0, 20) := by unfold ofM; rw [e1, e2]
  rw [e1] at k1
  rw [e2] at k2
  have i1 : FloatKind.f64.encode (.number (decide (x < 0)) x.natAbs 0) = ib x := rfl
  have i2 : FloatKind.f64.encode (.number (decide (y < 0)) y.natAbs 0) = ib y := rfl
  have i3 : floatOfInt .f64 x = ib x := rfl
  have i4 : floatOfInt .f64 y = ib y := rfl
  have hz := ib_zero
  clear e1 e2
  go_enter Tryz.func305, Tryz.ntmps305
  cases b1 with
  | false =>
    have hf := Lib.hid (show ofM x y = (0, 0, 20) by rw [hd]; simp)
    clear hd
    go_wp2_with (go_at_call 317; go_must (refine (k1 _).mono ?_; rintro e w2 ⟨rfl, rfl⟩))
    go_ret2
    rw [hf.out, hz]
    exact ⟨rfl, rfl⟩
  | true =>
    cases b2 with
    | false =>
      have hf := Lib.hid (show ofM x y = (0, 0, 20) by rw [hd]; simp)
      clear hd
      go_wp2_with (go_at_call 317; go_must (first
        | (with_reducible refine (k1 _).mono ?_; rintro e w2 ⟨rfl, rfl⟩)
        | (with_reducible refine (k2 _).mono ?_; rintro e w2 ⟨rfl, rfl⟩)))
      go_ret2
      rw [hf.out, hz]
      exact ⟨rfl, rfl⟩
    | true =>
      have hf := Lib.hid (show ofM x y = (x, y, 0) by rw [hd]; simp)
      clear hd hz
      go_wp2_with (go_at_call 317; go_must (first
        | (with_reducible refine (k1 _).mono ?_; rintro e w2 ⟨rfl, rfl⟩)
        | (with_reducible refine (k2 _).mono ?_; rintro e w2 ⟨rfl, rfl⟩)))
      go_ret2
      rw [hf.out]
      exact ⟨rfl, rfl⟩

end Go.Proofs.YtiglgfonhdfpmaaGreat

/- The walks of gauss: Parts, Turn, Add. Condition: the numbers' size. -/
set_option linter.unusedVariables false
set_option linter.unusedSimpArgs false
namespace Go.Proofs.YtiglgfonhdfpmaaGreat
open Go.RowKit

theorem ib_int {x : Int} (hx : x.natAbs < 2 ^ 53) (w : World) : (convert 216 3 (.float .f64 (ib x))).run Tryz.prog w = .ok (.int .i64 x) w := by
  refine run_convert_float_int w 216 3 .f64 .i64 (ib x) x (by kernel_rfl) Tryz.underlying3 ?_
  unfold floatToIntVal
  have h : (FloatKind.f64.decode (ib x)).toInt .zero = some x := toInt_ib hx
  rw [h]
  simp only
  have e1 : IntKind.i64.min = -9223372036854775808 := by decide
  have e2 : IntKind.i64.max = 9223372036854775807 := by decide
  rw [e1, e2, if_pos (by omega)]
theorem ib_sum {x y u v : Int} (hx : x.natAbs < 2 ^ 52) (hy : y.natAbs < 2 ^ 52) (hu : u.natAbs < 2 ^ 52) (hv : v.natAbs < 2 ^ 52) (t : TypeId) (w : World) :
    (binOp .add t (.complex .f64 (ib x) (ib y)) (.complex .f64 (ib u) (ib v))).run Tryz.prog w = .ok (.complex .f64 (ib (x + u)) (ib (y + v))) w := by
  refine run_complex_sum w .add (.inl rfl) t .f64 _ _ _ _ _ _ ?_
  unfold cSumBits
  rw [add_ib hx hu, add_ib hy hv]
  rfl
def partsM (x y : Int) : Int × Int := if partB x = true ∧ partB y = true then (x, y) else (0, 0)
set_option maxHeartbeats 1000000 in
set_option maxRecDepth 100000 in
theorem gauss_parts {x y : Int} (hx : x.natAbs < 2 ^ 53) (hy : y.natAbs < 2 ^ 53) (w : World) : Calls Tryz.prog 83 #[.complex .f64 (ib x) (ib y)] w fun e w' => e = .returned (.tuple #[.int .i64 (partsM x y).1, .int .i64 (partsM x y).2]) ∧ w' = w := by
  have k1 := fun w' => gauss_right hx hy w'
  have c1 := ib_int hx
  have c2 := ib_int hy
  have hd : partsM x y = if (partB x && partB y) = true then (x, y) else (0, 0) := by unfold partsM; simp
  obtain ⟨b, e⟩ : ∃ b, (partB x && partB y) = b := ⟨_, rfl⟩
  obtain ⟨X, hX⟩ : ∃ X, ib x = X := ⟨_, rfl⟩
  obtain ⟨Y, hY⟩ : ∃ Y, ib y = Y := ⟨_, rfl⟩
  rw [e, hX, hY] at k1
  rw [e] at hd
  rw [hX] at c1
  rw [hY] at c2
  rw [hX, hY]
  clear e hX hY
  go_enter Tryz.func83, Tryz.ntmps83
  cases b with
  | false =>
    have hf := Lib.hid (show partsM x y = (0, 0) by rw [hd]; simp)
    clear hd
    go_wp2_with (go_at_call 150; go_must (refine (k1 _).mono ?_; rintro e w2 ⟨rfl, rfl⟩))
    go_ret2
    rw [hf.out]
    exact ⟨rfl, rfl⟩
  | true =>
    have hf := Lib.hid (show partsM x y = (x, y) by rw [hd]; simp)
    clear hd
    go_wp2_with (go_at_call 150; go_must (refine (k1 _).mono ?_; rintro e w2 ⟨rfl, rfl⟩))
    go_ret2
    rw [hf.out]
    exact ⟨rfl, rfl⟩
set_option maxHeartbeats 1000000 in
set_option maxRecDepth 100000 in
theorem gauss_turn {v : Int} (hv : -9223372036854775808 ≤ v ∧ v ≤ 9223372036854775807) (w : World) : Calls Tryz.prog 289 #[.int .i64 v] w fun e w' => e = .returned (.complex .f64 (ib (turnX v)) (ib (turnY v))) ∧ w' = w := by
  have e0 := ib_zero
  have e1 := ib_one
  have e2 := ib_neg
  have hb : -4 < v.tmod 4 ∧ v.tmod 4 < 4 ∧ (v.tmod 4) % 4 = v % 4 := by
    rcases Int.le_total 0 v with h | h
    · rw [Int.tmod_eq_emod_of_nonneg h]; omega
    · obtain ⟨u, rfl⟩ : ∃ u, v = -u := ⟨-v, by omega⟩
      rw [Int.neg_tmod, Int.tmod_eq_emod_of_nonneg (by omega)]; omega
  have hr : (v.tmod 4 + 4).tmod 4 = v % 4 := by rw [Int.tmod_eq_emod_of_nonneg (by omega)]; omega
  have hq : v.tmod 4 + 4 ≤ 8 ∧ 0 ≤ v.tmod 4 + 4 := by omega
  have w0 : IntKind.i64.wrap (v.tmod 4) = v.tmod 4 := by rw [IntKind.wrap_i64]; omega
  have w1 : IntKind.i64.wrap (v.tmod 4 + 4) = v.tmod 4 + 4 := by rw [IntKind.wrap_i64]; omega
  have w2 : IntKind.i64.wrap (v % 4) = v % 4 := by rw [IntKind.wrap_i64]; omega
  have hc : v % 4 = 0 ∨ v % 4 = 1 ∨ v % 4 = 2 ∨ v % 4 = 3 := by omega
  obtain ⟨R, hR⟩ : ∃ R, v % 4 = R := ⟨_, rfl⟩
  have hx : turnX v = if R = 0 then 1 else if R = 2 then -1 else 0 := by unfold turnX; rw [hR]
  have hy : turnY v = if R = 1 then 1 else if R = 3 then -1 else 0 := by unfold turnY; rw [hR]
  rw [hR] at hr w2 hc
  clear hR hq hv hb
  go_enter Tryz.func289, Tryz.ntmps289
  rcases hc with rfl | rfl | rfl | rfl
  · have hX := Lib.hid (show turnX v = 1 from hx)
    have hY := Lib.hid (show turnY v = 0 from hy)
    clear hx hy
    go_wp2
    go_ret
    rw [hX.out, hY.out, e0, e1]
    exact ⟨rfl, rfl⟩
  · have hX := Lib.hid (show turnX v = 0 from hx)
    have hY := Lib.hid (show turnY v = 1 from hy)
    clear hx hy
    go_wp2
    go_ret
    rw [hX.out, hY.out, e0, e1]
    exact ⟨rfl, rfl⟩
  · have hX := Lib.hid (show turnX v = -1 from hx)
    have hY := Lib.hid (show turnY v = 0 from hy)
    clear hx hy
    go_wp2
    go_ret
    rw [hX.out, hY.out, e0, e2]
    exact ⟨rfl, rfl⟩
  · have hX := Lib.hid (show turnX v = 0 from hx)
    have hY := Lib.hid (show turnY v = -1 from hy)
    clear hx hy
    go_wp2
    go_ret
    rw [hX.out, hY.out, e0, e2]
    exact ⟨rfl, rfl⟩
def addM (x y u v : Int) : Int × Int × Int := if (partB x = true ∧ partB y = true) ∧ (partB u = true ∧ partB v = true) then ofM (x + u) (y + v) else (0, 0, 2)
set_option maxHeartbeats 1000000 in
set_option maxRecDepth 100000 in
theorem gauss_add {x y u v : Int} (hx : x.natAbs < 2 ^ 52) (hy : y.natAbs < 2 ^ 52) (hu : u.natAbs < 2 ^ 52) (hv : v.natAbs < 2 ^ 52) (w : World) :
    Calls Tryz.prog 284 #[.complex .f64 (ib x) (ib y), .complex .f64 (ib u) (ib v)] w fun e w' => e = .returned (.tuple #[.complex .f64 (ib (addM x y u v).1) (ib (addM x y u v).2.1), .int .i64 (addM x y u v).2.2]) ∧ w' = w := by
  have k1 := fun w' => gauss_right (x := x) (y := y) (by omega) (by omega) w'
  have k2 := fun w' => gauss_right (x := u) (y := v) (by omega) (by omega) w'
  have ko := fun w' => gauss_of (x + u) (y + v) w'
  have c1 := ib_int (x := x + u) (by omega)
  have c2 := ib_int (x := y + v) (by omega)
  have cs := ib_sum hx hy hu hv
  have e0 := ib_zero
  have hd : addM x y u v = if (partB x && partB y) = true ∧ (partB u && partB v) = true then ofM (x + u) (y + v) else (0, 0, 2) := by unfold addM; simp
  obtain ⟨b1, g1⟩ : ∃ b, (partB x && partB y) = b := ⟨_, rfl⟩
  obtain ⟨b2, g2⟩ : ∃ b, (partB u && partB v) = b := ⟨_, rfl⟩
  rw [g1] at k1
  rw [g2] at k2
  rw [g1, g2] at hd
  obtain ⟨X, hX⟩ : ∃ X, ib x = X := ⟨_, rfl⟩
  obtain ⟨Y, hY⟩ : ∃ Y, ib y = Y := ⟨_, rfl⟩
  obtain ⟨U, hU⟩ : ∃ U, ib u = U := ⟨_, rfl⟩
  obtain ⟨V, hV⟩ : ∃ V, ib v = V := ⟨_, rfl⟩
  obtain ⟨P, hP⟩ : ∃ P, ib (x + u) = P := ⟨_, rfl⟩
  obtain ⟨Q, hQ⟩ : ∃ Q, ib (y + v) = Q := ⟨_, rfl⟩
  rw [hX, hY] at k1
  rw [hU, hV] at k2
  rw [hP] at c1
  rw [hQ] at c2
  rw [hX, hY, hU, hV, hP, hQ] at cs
  rw [hX, hY, hU, hV]
  obtain ⟨r, hr⟩ : ∃ r, ofM (x + u) (y + v) = r := ⟨_, rfl⟩
  rw [hr] at ko hd
  clear g1 g2 hX hY hU hV hP hQ hr
  go_enter Tryz.func284, Tryz.ntmps284
  cases b1 with
  | false =>
    have hf := Lib.hid (show addM x y u v = (0, 0, 2) by rw [hd]; simp)
    clear hd
    go_wp2_with (go_at_call 150; go_must (refine (k1 _).mono ?_; rintro e w2 ⟨rfl, rfl⟩))
    go_ret2
    rw [hf.out, e0]
    exact ⟨rfl, rfl⟩
  | true =>
    cases b2 with
    | false =>
      have hf := Lib.hid (show addM x y u v = (0, 0, 2) by rw [hd]; simp)
      clear hd
      go_wp2_with (go_at_call 150; go_must (first
        | (with_reducible refine (k1 _).mono ?_; rintro e w2 ⟨rfl, rfl⟩)
        | (with_reducible refine (k2 _).mono ?_; rintro e w2 ⟨rfl, rfl⟩)))
      go_ret2
      rw [hf.out, e0]
      exact ⟨rfl, rfl⟩
    | true =>
      have hf := Lib.hid (show addM x y u v = r by rw [hd]; simp)
      clear hd
      go_wp2_with (first
        | (go_at_call 150; go_must (first
          | (with_reducible refine (k1 _).mono ?_; rintro e w2 ⟨rfl, rfl⟩)
          | (with_reducible refine (k2 _).mono ?_; rintro e w2 ⟨rfl, rfl⟩)))
        | (go_at_call 305; go_must (refine (ko _).mono ?_; rintro e w2 ⟨rfl, rfl⟩)))
      go_ret2
      rw [hf.out]
      exact ⟨rfl, rfl⟩

end Go.Proofs.YtiglgfonhdfpmaaGreat

/- The walks of the aggregates' value, falling, number, top. No condition but that numbers are of 64 bits. -/
set_option linter.unusedVariables false
set_option linter.unusedSimpArgs false
namespace Go.Proofs.YtiglgfonhdfpmaaGreat
open Go.RowKit

set_option maxHeartbeats 1000000 in
set_option maxRecDepth 100000 in
theorem agg_value (v : Int) (w : World) : Calls Tryz.prog 202 #[.int .i64 v] w fun e w' => e = .returned (.bool (valB v)) ∧ w' = w := by
  go_enter Tryz.func202, Tryz.ntmps202
  by_cases h1 : -1099511627776 ≤ v
  · have z1 : decide (-1099511627776 ≤ v) = true := by simpa using h1
    have hf := Lib.hid (show valB v = decide (v ≤ 1099511627776) by unfold valB; rw [z1, Bool.true_and])
    clear h1
    go_wp2
    go_ret
    rw [hf.out]
    exact ⟨rfl, rfl⟩
  · have z1 : decide (-1099511627776 ≤ v) = false := by simpa using h1
    have hf := Lib.hid (show valB v = false by unfold valB; rw [z1, Bool.false_and])
    clear h1
    go_wp2
    go_ret
    rw [hf.out]
    exact ⟨rfl, rfl⟩
theorem fall_grow {l : List Int} {i : Nat} {x y : Int} (hx : l[i + 1]? = some x) (hy : l[i]? = some y) (h : fallB (l.take (i + 1)) = true) (hv : valB x = true) (hxy : x ≤ y) : fallB (l.take (i + 1 + 1)) = true := by
  obtain ⟨h1, h2⟩ := fallB_iff.1 h
  rw [take_snoc' hx]
  refine fallB_iff.2 ⟨?_, fun z hz => ?_⟩
  · unfold Fall at *
    rw [take_snoc' hy] at h1 ⊢
    have h3 := List.pairwise_append.1 h1
    refine List.pairwise_append.2 ⟨h1, List.pairwise_singleton _ _, fun a ha b hb => ?_⟩
    obtain rfl := List.mem_singleton.1 hb
    rcases List.mem_append.1 ha with ha | ha
    · have := h3.2.2 a ha y (by simp); omega
    · obtain rfl := List.mem_singleton.1 ha; exact hxy
  · rcases List.mem_append.1 hz with hz | hz
    · exact h2 z hz
    · obtain rfl := List.mem_singleton.1 hz; exact hv
theorem fall_start {l : List Int} {x : Int} (hx : l[0]? = some x) (hv : valB x = true) : fallB (l.take 1) = true := by
  rw [take_snoc' hx]
  simpa [fallB] using hv
theorem fall_bad {l : List Int} {i : Nat} {x : Int} (hx : l[i]? = some x) (hv : valB x = false) : fallB l = false := by
  rw [← Bool.not_eq_true]
  intro h
  have := (fallB_iff.1 h).2 x (List.mem_of_getElem? hx)
  rw [hv] at this
  cases this
theorem fall_rise {l : List Int} {i : Nat} {x y : Int} (hx : l[i + 1]? = some x) (hy : l[i]? = some y) (h : y < x) : fallB l = false := by
  rw [← Bool.not_eq_true]
  intro hb
  have h1 := (fallB_iff.1 hb).1
  unfold Fall at h1
  obtain ⟨hi, e1⟩ := List.getElem?_eq_some_iff.1 hx
  obtain ⟨hj, e2⟩ := List.getElem?_eq_some_iff.1 hy
  have := List.pairwise_iff_getElem.1 h1 i (i + 1) hj hi (by omega)
  omega
set_option maxHeartbeats 2000000 in
set_option maxRecDepth 100000 in
theorem agg_falling {v : Value} {l : List Int} (w : World) (hv : IntsRO w v l) (hl : l.length ≤ 9223372036854775807) :
    Calls Tryz.prog 203 #[v] w fun e w' => e = .returned (.bool (fallB l)) ∧ w' = w := by
  obtain ⟨ao, cap, rfl, hcap, hint, hcell⟩ := hv
  go_enter Tryz.func203, Tryz.ntmps203
  go_upto_block 1 with (fail)
  go_loopw [7] (fun j wr => ∃ (i : Nat), i ≤ l.length ∧ j = .int .i64 i ∧ Hid (fallB (l.take i) = true) ∧ wr = w) (fun j _ => l.length - (intOf j).toNat)
  case atStart => exact ⟨0, by omega, rfl, Lib.hid (by rfl), rfl⟩
  case round =>
    obtain ⟨i, hi, rfl, hz, rfl⟩ := hrel
    by_cases hlt : i < l.length
    · obtain ⟨b, o, rfl, hb, hc⟩ := hcell (by rintro rfl; simp at hlt)
      obtain ⟨x, hx⟩ : ∃ x, l[i]? = some x := ⟨_, List.getElem?_eq_getElem hlt⟩
      have c0 := hc i x hx
      have hxh := Lib.hid hx
      have hxb := hint x (List.mem_of_getElem? hx)
      have kv := fun w' => agg_value x w'
      cases hvx : valB x with
      | false =>
        have hr := Lib.hid (fall_bad hx hvx)
        rw [hvx] at kv
        clear hx hc hcell hvx
        go_wp2_with (go_at_call 202; go_must (refine (kv _).mono ?_; rintro e w2 ⟨rfl, rfl⟩))
        go_ret
        rw [hr.out]
        exact ⟨rfl, rfl⟩
      | true =>
        rw [hvx] at kv
        have hvh := Lib.hid hvx
        cases i with
        | zero =>
          clear hx hc hcell hvx
          simp only [Nat.add_zero, Int.natCast_zero] at *
          go_wp2_with (go_at_call 202; go_must (refine (kv _).mono ?_; rintro e w2 ⟨rfl, rfl⟩))
          go_roundw
          case rel => exact ⟨1, by omega, by go_num, Lib.hid (fall_start hxh.out hvh.out), by first | rfl | trivial⟩
          case measure => simp [intOf]; omega
        | succ k =>
          obtain ⟨y, hy⟩ : ∃ y, l[k]? = some y := ⟨_, List.getElem?_eq_getElem (by omega)⟩
          have c1 := hc k y hy
          have hyh := Lib.hid hy
          have hyb := hint y (List.mem_of_getElem? hy)
          have n1 : ((k : Int) + 1 - 1).toNat = k := by omega
          by_cases hxy : y < x
          · have z1 : decide (y < x) = true := by simpa using hxy
            have hr := Lib.hid (fall_rise hx hy hxy)
            clear hx hy hc hcell hvx hxy
            go_wp2_with (go_at_call 202; go_must (refine (kv _).mono ?_; rintro e w2 ⟨rfl, rfl⟩))
            go_ret
            rw [hr.out]
            exact ⟨rfl, rfl⟩
          · have z1 : decide (y < x) = false := by simpa using hxy
            have hr := Lib.hid (fall_grow hx hy hz.out hvx (by omega))
            clear hx hy hc hcell hvx hxy
            go_wp2_with (go_at_call 202; go_must (refine (kv _).mono ?_; rintro e w2 ⟨rfl, rfl⟩))
            go_roundw
            case rel => exact ⟨k + 1 + 1, by omega, by go_num, hr, by first | rfl | trivial⟩
            case measure => simp [intOf]; omega
    · obtain rfl : i = l.length := by omega
      have hr := Lib.hid (show fallB l = true by have := hz.out; rwa [List.take_length] at this)
      go_wp2
      go_ret
      rw [hr.out]
      exact ⟨rfl, rfl⟩

end Go.Proofs.YtiglgfonhdfpmaaGreat

/- The walks of the aggregates' number and top. -/
set_option linter.unusedVariables false
set_option linter.unusedSimpArgs false
namespace Go.Proofs.YtiglgfonhdfpmaaGreat
open Go.RowKit

/-- An aggregate's cells: its top ones lie behind a header. -/
abbrev agC (g : Ag) (h : Value) : Array Value := #[.int .i64 g.n, .int .i64 g.a, h, .complex .f64 (ib g.x) (ib g.y)]
abbrev agV (g : Ag) (h : Value) : Value := .agg (agC g h)
set_option maxHeartbeats 2000000 in
set_option maxRecDepth 100000 in
theorem agg_number (q : Qry) (g : Ag) (hv : Value) (w : World) : Calls Tryz.prog 148 #[qyV q, agV g hv] w fun e w' => e = .returned (.bool (numB q g.a)) ∧ Below w.heap.size w w' := by
  obtain ⟨kd, sz, sl, lt, ag, kk⟩ := q
  obtain ⟨n, a, tp, x, y⟩ := g
  have kv := fun w' => agg_value a w'
  have hf0 : numB ⟨kd, sz, sl, lt, ag, kk⟩ a = if ag = 2 ∨ ag = 5 then decide (-4398046511104 ≤ a) && decide (a ≤ 4398046511104) else if ag = 3 ∨ ag = 4 then valB a else decide (a = 0) := rfl
  unfold qyV agV qyC agC
  simp only
  obtain ⟨X, hX⟩ : ∃ X, Value.complex .f64 (ib x) (ib y) = X := ⟨_, rfl⟩
  rw [hX]
  clear hX
  obtain ⟨b, hb⟩ : ∃ g, w.heap.size = g := ⟨_, rfl⟩
  obtain ⟨b2, hb2⟩ : ∃ b2, b + 1 = b2 := ⟨_, rfl⟩
  have H0 : St (fun _ => False) w _ [_] := (St.nil _ w).allocAt hb #[.int .i64 kd, .int .i64 sz, .int .i64 sl, .int .i64 lt, .int .i64 ag, .int .i64 kk] 23
  have H := H0.allocAt (B := b2) (by rw [← hb2, ← hb]; exact Array.size_push _) #[.int .i64 n, .int .i64 a, hv, X] 66
  obtain ⟨w1, hw1⟩ : ∃ w1, (w.alloc (.cells #[.int .i64 kd, .int .i64 sz, .int .i64 sl, .int .i64 lt, .int .i64 ag, .int .i64 kk] 23)).alloc (.cells #[.int .i64 n, .int .i64 a, hv, X] 66) = w1 := ⟨_, rfl⟩
  rw [hw1] at H
  have c4 := H.cell 1 4 rfl rfl
  have d1 := H.cell 0 1 rfl rfl
  go_enter Tryz.func148, Tryz.ntmps148
  go_upto_region 1 with (fail)
  try simp only [hb, hb2]
  try rw [hw1]
  clear hw1 hb hb2 H0
  have hk : ag = 2 ∨ ag = 5 ∨ ag = 3 ∨ ag = 4 ∨ (ag ≠ 2 ∧ ag ≠ 5 ∧ ag ≠ 3 ∧ ag ≠ 4) := by omega
  have hsum : ∀ (P : Bool), (P = decide (-4398046511104 ≤ a) && decide (a ≤ 4398046511104)) = (P = decide (-4398046511104 ≤ a) && decide (a ≤ 4398046511104)) := fun _ => rfl
  clear hsum
  rcases hk with rfl | rfl | rfl | rfl | ⟨h2, h5, h3, h4⟩
  case inl =>
    by_cases h1 : -4398046511104 ≤ a
    · have z1 : decide (-4398046511104 ≤ a) = true := by simpa using h1
      have hf := Lib.hid (show numB ⟨kd, sz, sl, lt, 2, kk⟩ a = decide (a ≤ 4398046511104) by rw [hf0, z1]; simp)
      clear h1 hf0
      go_wp2
      go_ret
      rw [hf.out]
      exact ⟨rfl, H.below (Nat.le_refl _) (fun _ h => h.elim)⟩
    · have z1 : decide (-4398046511104 ≤ a) = false := by simpa using h1
      have hf := Lib.hid (show numB ⟨kd, sz, sl, lt, 2, kk⟩ a = false by rw [hf0, z1]; simp)
      clear h1 hf0
      go_wp2
      go_ret
      rw [hf.out]
      exact ⟨rfl, H.below (Nat.le_refl _) (fun _ h => h.elim)⟩
  case inr.inl =>
    by_cases h1 : -4398046511104 ≤ a
    · have z1 : decide (-4398046511104 ≤ a) = true := by simpa using h1
      have hf := Lib.hid (show numB ⟨kd, sz, sl, lt, 5, kk⟩ a = decide (a ≤ 4398046511104) by rw [hf0, z1]; simp)
      clear h1 hf0
      go_wp2
      go_ret
      rw [hf.out]
      exact ⟨rfl, H.below (Nat.le_refl _) (fun _ h => h.elim)⟩
    · have z1 : decide (-4398046511104 ≤ a) = false := by simpa using h1
      have hf := Lib.hid (show numB ⟨kd, sz, sl, lt, 5, kk⟩ a = false by rw [hf0, z1]; simp)
      clear h1 hf0
      go_wp2
      go_ret
      rw [hf.out]
      exact ⟨rfl, H.below (Nat.le_refl _) (fun _ h => h.elim)⟩
  case inr.inr.inl =>
    have hf := Lib.hid (show numB ⟨kd, sz, sl, lt, 3, kk⟩ a = valB a by rw [hf0]; simp)
    clear hf0
    go_wp2_with (go_at_call 202; go_must (refine (kv _).mono ?_; rintro e w2 ⟨rfl, rfl⟩))
    go_ret
    rw [hf.out]
    exact ⟨rfl, H.below (Nat.le_refl _) (fun _ h => h.elim)⟩
  case inr.inr.inr.inl =>
    have hf := Lib.hid (show numB ⟨kd, sz, sl, lt, 4, kk⟩ a = valB a by rw [hf0]; simp)
    clear hf0
    go_wp2_with (go_at_call 202; go_must (refine (kv _).mono ?_; rintro e w2 ⟨rfl, rfl⟩))
    go_ret
    rw [hf.out]
    exact ⟨rfl, H.below (Nat.le_refl _) (fun _ h => h.elim)⟩
  case inr.inr.inr.inr =>
    have hf := Lib.hid (show numB ⟨kd, sz, sl, lt, ag, kk⟩ a = (a == 0) by rw [hf0, if_neg (by omega), if_neg (by omega), Bool.eq_iff_iff]; simp)
    have y2 : (ag == 2) = false := by simpa using h2
    have y5 : (ag == 5) = false := by simpa using h5
    have y3 : (ag == 3) = false := by simpa using h3
    have y4 : (ag == 4) = false := by simpa using h4
    clear hf0 h2 h5 h3 h4
    go_wp2
    go_ret
    rw [hf.out]
    exact ⟨rfl, H.below (Nat.le_refl _) (fun _ h => h.elim)⟩
set_option maxHeartbeats 2000000 in
set_option maxRecDepth 100000 in
theorem agg_top (q : Qry) (g : Ag) {hv : Value} (w : World) (hr : IntsRO w hv g.top) (hl : g.top.length ≤ 9223372036854775807) : Calls Tryz.prog 149 #[qyV q, agV g hv] w fun e w' => e = .returned (.bool (topB q g.n g.top)) ∧ Below w.heap.size w w' := by
  have hr0 := hr
  obtain ⟨ad, cap, rfl, -⟩ := hr
  obtain ⟨kd, sz, sl, lt, ag, kk⟩ := q
  obtain ⟨n, a, tp, x, y⟩ := g
  simp only at hr0 hl
  have hf0 : topB ⟨kd, sz, sl, lt, ag, kk⟩ n tp = if ag = 6 then decide ((tp.length : Int) = min n kk) && fallB tp else decide (tp = []) := rfl
  unfold qyV agV qyC agC
  simp only
  obtain ⟨X, hX⟩ : ∃ X, Value.complex .f64 (ib x) (ib y) = X := ⟨_, rfl⟩
  rw [hX]
  clear hX
  obtain ⟨m, hm⟩ : ∃ m, min n kk = m := ⟨_, rfl⟩
  have hm2 : (if n < kk then n else kk) = m := by rw [← hm]; split <;> omega
  obtain ⟨b, hb⟩ : ∃ g, w.heap.size = g := ⟨_, rfl⟩
  obtain ⟨b2, hb2⟩ : ∃ b2, b + 1 = b2 := ⟨_, rfl⟩
  have H0 : St (fun _ => False) w _ [_] := (St.nil _ w).allocAt hb #[.int .i64 kd, .int .i64 sz, .int .i64 sl, .int .i64 lt, .int .i64 ag, .int .i64 kk] 23
  have H := H0.allocAt (B := b2) (by rw [← hb2, ← hb]; exact Array.size_push _) #[.int .i64 n, .int .i64 a, .slice ad tp.length cap, X] 66
  obtain ⟨w1, hw1⟩ : ∃ w1, (w.alloc (.cells #[.int .i64 kd, .int .i64 sz, .int .i64 sl, .int .i64 lt, .int .i64 ag, .int .i64 kk] 23)).alloc (.cells #[.int .i64 n, .int .i64 a, .slice ad tp.length cap, X] 66) = w1 := ⟨_, rfl⟩
  rw [hw1] at H
  have kf := agg_falling w1 (hr0.later H.kept) hl
  have c4 := H.cell 1 4 rfl rfl
  have c5 := H.cell 1 5 rfl rfl
  have d0 := H.cell 0 0 rfl rfl
  have d2 := H.cell 0 2 rfl rfl
  go_enter Tryz.func149, Tryz.ntmps149
  go_upto_region 1 with (fail)
  try simp only [hb, hb2]
  try rw [hw1]
  clear hw1 hb hb2 H0 hr0
  by_cases h6 : ag = 6
  · have y1 : (ag == 6) = true := by simpa using h6
    have y2 : (ag != 6) = false := by simpa using h6
    by_cases hs : (tp.length : Int) = m
    · have z1 : ((tp.length : Int) == m) = true := by simpa using hs
      have hf := Lib.hid (show topB ⟨kd, sz, sl, lt, ag, kk⟩ n tp = fallB tp by rw [hf0, if_pos h6, hm, hs]; simp)
      clear h6 hf0 hs
      go_wp2_with (go_at_call 203; go_must (with_reducible refine kf.mono ?_; rintro e w2 ⟨rfl, rfl⟩))
      go_ret
      rw [hf.out]
      exact ⟨rfl, H.below (Nat.le_refl _) (fun _ h => h.elim)⟩
    · have z1 : ((tp.length : Int) == m) = false := by simpa using hs
      have hf := Lib.hid (show topB ⟨kd, sz, sl, lt, ag, kk⟩ n tp = false by rw [hf0, if_pos h6, hm]; simp [hs])
      clear h6 hf0 hs
      go_wp2
      go_ret
      rw [hf.out]
      exact ⟨rfl, H.below (Nat.le_refl _) (fun _ h => h.elim)⟩
  · have y1 : (ag == 6) = false := by simpa using h6
    have y2 : (ag != 6) = true := by simpa using h6
    have hf := Lib.hid (show topB ⟨kd, sz, sl, lt, ag, kk⟩ n tp = ((tp.length : Int) == 0) by
      rw [hf0, if_neg h6, Bool.eq_iff_iff]
      simp)
    clear h6 hf0
    go_wp2
    go_ret
    rw [hf.out]
    exact ⟨ret_bool (by simp), H.below (Nat.le_refl _) (fun _ h => h.elim)⟩

end Go.Proofs.YtiglgfonhdfpmaaGreat

/- The walk of the aggregates' Right. -/
set_option linter.unusedVariables false
set_option linter.unusedSimpArgs false
namespace Go.Proofs.YtiglgfonhdfpmaaGreat
open Go.RowKit

set_option maxHeartbeats 8000000 in
set_option maxRecDepth 100000 in
theorem agg_right (q : Qry) (g : Ag) {hv : Value} (w : World) (hr : IntsRO w hv g.top) (hl : g.top.length ≤ 9223372036854775807) (hx : g.x.natAbs < 2 ^ 53) (hy : g.y.natAbs < 2 ^ 53) : Calls Tryz.prog 80 #[qyV q, agV g hv] w fun e w' => e = .returned (.bool (g.right q)) ∧ Below w.heap.size w w' := by
  have k1 := fun w' => query_right q w'
  have k4 := fun w' => agg_number q g hv w'
  have k5 := fun w' (h : IntsRO w' hv g.top) => agg_top q g w' h hl
  have k6 := fun w' => gauss_right hx hy w'
  have ex : (FloatKind.f64.format.order (ib g.x) (ib 0) == some Ordering.eq) = decide (g.x = 0) := by
    rw [Bool.eq_iff_iff, beq_iff_eq, decide_eq_true_eq]
    exact eq_ib hx (by decide)
  have ey : (FloatKind.f64.format.order (ib g.y) (ib 0) == some Ordering.eq) = decide (g.y = 0) := by
    rw [Bool.eq_iff_iff, beq_iff_eq, decide_eq_true_eq]
    exact eq_ib hy (by decide)
  rw [ib_zero] at ex ey
  have hr0 := hr
  obtain ⟨ad, cap, rfl, -⟩ := hr
  have hf0 : g.right q = (q.right && decide (0 ≤ g.n) && decide (g.n ≤ 1073741824) && numB q g.a && topB q g.n g.top && (decide (q.agg = 7) || (decide (g.x = 0) && decide (g.y = 0))) && (partB g.x && partB g.y) && (decide (0 < g.n) || (decide (g.a = 0) && (decide (g.x = 0) && decide (g.y = 0))))) := by
    unfold Ag.right
    simp only [Bool.decide_and, Bool.and_assoc]
  obtain ⟨b1, e1⟩ : ∃ b, q.right = b := ⟨_, rfl⟩
  obtain ⟨b4, e4⟩ : ∃ b, numB q g.a = b := ⟨_, rfl⟩
  obtain ⟨b5, e5⟩ : ∃ b, topB q g.n g.top = b := ⟨_, rfl⟩
  obtain ⟨b6, e6⟩ : ∃ b, (partB g.x && partB g.y) = b := ⟨_, rfl⟩
  rw [e1] at k1
  rw [e4] at k4
  rw [e5] at k5
  rw [e6] at k6
  rw [e1, e4, e5, e6] at hf0
  obtain ⟨bx, hbx⟩ : ∃ b, decide (g.x = 0) = b := ⟨_, rfl⟩
  obtain ⟨by', hby⟩ : ∃ b, decide (g.y = 0) = b := ⟨_, rfl⟩
  rw [hbx] at ex
  rw [hby] at ey
  rw [hbx, hby] at hf0
  clear e1 e4 e5 e6 hbx hby hx hy
  obtain ⟨R, hR⟩ : ∃ R, g.right q = R := ⟨_, rfl⟩
  rw [hR] at hf0 ⊢
  clear hR
  obtain ⟨kd, sz, sl, lt, ag, kk⟩ := q
  obtain ⟨n, a, tp, x, y⟩ := g
  simp only at *
  unfold qyV agV qyC agC at *
  simp only at *
  obtain ⟨X, hX⟩ : ∃ X, ib x = X := ⟨_, rfl⟩
  obtain ⟨Y, hY⟩ : ∃ Y, ib y = Y := ⟨_, rfl⟩
  simp only [hX, hY] at k4 k5 k6 ex ey ⊢
  clear hX hY
  obtain ⟨b, hb⟩ : ∃ g, w.heap.size = g := ⟨_, rfl⟩
  obtain ⟨b2, hb2⟩ : ∃ b2, b + 1 = b2 := ⟨_, rfl⟩
  have H0 : St (fun _ => False) w _ [_] := (St.nil _ w).allocAt hb #[.int .i64 kd, .int .i64 sz, .int .i64 sl, .int .i64 lt, .int .i64 ag, .int .i64 kk] 23
  have H := H0.allocAt (B := b2) (by rw [← hb2, ← hb]; exact Array.size_push _) #[.int .i64 n, .int .i64 a, .slice ad tp.length cap, .complex .f64 X Y] 66
  obtain ⟨w1, hw1⟩ : ∃ w1, (w.alloc (.cells #[.int .i64 kd, .int .i64 sz, .int .i64 sl, .int .i64 lt, .int .i64 ag, .int .i64 kk] 23)).alloc (.cells #[.int .i64 n, .int .i64 a, .slice ad tp.length cap, .complex .f64 X Y] 66) = w1 := ⟨_, rfl⟩
  rw [hw1] at H
  go_enter Tryz.func80, Tryz.ntmps80
  go_upto_region 1 with (fail)
  try simp only [hb, hb2]
  try rw [hw1]
  clear hw1 hb hb2 H0
  have c0 := H.cell 1 0 rfl rfl
  have c1 := H.cell 1 1 rfl rfl
  have c2 := H.cell 1 2 rfl rfl
  have c3 := H.cell 1 3 rfl rfl
  have c4 := H.cell 1 4 rfl rfl
  have c5 := H.cell 1 5 rfl rfl
  have d0 := H.cell 0 0 rfl rfl
  have d1 := H.cell 0 1 rfl rfl
  have d2 := H.cell 0 2 rfl rfl
  have d3 := H.cell 0 3 rfl rfl
  have hf := Lib.hid hf0
  clear hf0
  have hk : b1 = false ∨ (b1 = true ∧ n < 0) ∨ (b1 = true ∧ ¬ n < 0 ∧ 1073741824 < n) ∨ (b1 = true ∧ ¬ n < 0 ∧ ¬ 1073741824 < n ∧ b4 = false) ∨ (b1 = true ∧ ¬ n < 0 ∧ ¬ 1073741824 < n ∧ b4 = true ∧ b5 = false) ∨ (b1 = true ∧ ¬ n < 0 ∧ ¬ 1073741824 < n ∧ b4 = true ∧ b5 = true) := by
    cases b1 <;> cases b4 <;> cases b5 <;> simp <;> omega
  have q7 := Lib.hid (show (ag == 7) = decide (ag = 7) by rw [Bool.eq_iff_iff]; simp)
  have q8 := Lib.hid (show (ag != 7) = !decide (ag = 7) by rw [Bool.eq_iff_iff]; simp)
  have q9 := Lib.hid (show (a == 0) = decide (a = 0) by rw [Bool.eq_iff_iff]; simp)
  have hk2 : (¬ ag = 7 ∧ bx = false) ∨ (¬ ag = 7 ∧ bx = true ∧ by' = false) ∨ (¬ ag = 7 ∧ bx = true ∧ by' = true ∧ b6 = false) ∨ (ag = 7 ∧ b6 = false) ∨ (¬ ag = 7 ∧ bx = true ∧ by' = true ∧ b6 = true ∧ 0 < n) ∨ (ag = 7 ∧ b6 = true ∧ 0 < n) ∨ (¬ ag = 7 ∧ bx = true ∧ by' = true ∧ b6 = true ∧ ¬ 0 < n ∧ a = 0) ∨ (¬ ag = 7 ∧ bx = true ∧ by' = true ∧ b6 = true ∧ ¬ 0 < n ∧ ¬ a = 0) ∨ (ag = 7 ∧ b6 = true ∧ ¬ 0 < n ∧ ¬ a = 0) ∨ (ag = 7 ∧ b6 = true ∧ ¬ 0 < n ∧ a = 0 ∧ bx = false) ∨ (ag = 7 ∧ b6 = true ∧ ¬ 0 < n ∧ a = 0 ∧ bx = true) := by
    cases bx <;> cases by' <;> cases b6 <;> simp <;> omega
  have hk2 := Lib.hid hk2
  rcases hk with rfl | ⟨rfl, h1⟩ | ⟨rfl, h1, h2⟩ | ⟨rfl, h1, h2, rfl⟩ | ⟨rfl, h1, h2, rfl, rfl⟩ | ⟨rfl, h1, h2, rfl, rfl⟩
  case inl =>
    have hR := Lib.hid (show R = false by rw [hf.out]; simp)
    clear hf hk2 q7 q8 q9 ex ey
    go_wp2_with (first
      | (go_at_call 60; go_must (with_reducible refine (St.callPast (k1 _) H).mono ?_; clear c0 c1 c2 c3 c4 c5 d0 d1 d2 d3 H; rintro e w2 ⟨rfl, H⟩; have c0 := H.cell 1 0 rfl rfl; have c1 := H.cell 1 1 rfl rfl; have c2 := H.cell 1 2 rfl rfl; have c3 := H.cell 1 3 rfl rfl; have c4 := H.cell 1 4 rfl rfl; have c5 := H.cell 1 5 rfl rfl; have d0 := H.cell 0 0 rfl rfl; have d1 := H.cell 0 1 rfl rfl; have d2 := H.cell 0 2 rfl rfl; have d3 := H.cell 0 3 rfl rfl))
      | (go_at_call 148; go_must (with_reducible refine (St.callPast (k4 _) H).mono ?_; clear c0 c1 c2 c3 c4 c5 d0 d1 d2 d3 H; rintro e w2 ⟨rfl, H⟩; have c0 := H.cell 1 0 rfl rfl; have c1 := H.cell 1 1 rfl rfl; have c2 := H.cell 1 2 rfl rfl; have c3 := H.cell 1 3 rfl rfl; have c4 := H.cell 1 4 rfl rfl; have c5 := H.cell 1 5 rfl rfl; have d0 := H.cell 0 0 rfl rfl; have d1 := H.cell 0 1 rfl rfl; have d2 := H.cell 0 2 rfl rfl; have d3 := H.cell 0 3 rfl rfl))
      | (go_at_call 149; go_must (with_reducible refine (St.callPast (k5 _ (hr0.later H.kept)) H).mono ?_; clear c0 c1 c2 c3 c4 c5 d0 d1 d2 d3 H; rintro e w2 ⟨rfl, H⟩; have c0 := H.cell 1 0 rfl rfl; have c1 := H.cell 1 1 rfl rfl; have c2 := H.cell 1 2 rfl rfl; have c3 := H.cell 1 3 rfl rfl; have c4 := H.cell 1 4 rfl rfl; have c5 := H.cell 1 5 rfl rfl; have d0 := H.cell 0 0 rfl rfl; have d1 := H.cell 0 1 rfl rfl; have d2 := H.cell 0 2 rfl rfl; have d3 := H.cell 0 3 rfl rfl))
      | (go_at_call 150; go_must (with_reducible refine (k6 _).mono ?_; rintro e w2 ⟨rfl, rfl⟩)))
    go_ret
    rw [hR.out]
    exact ⟨rfl, H.below (Nat.le_refl _) (fun _ h => h.elim)⟩
  case inr.inl =>
    have hR := Lib.hid (show R = false by rw [hf.out]; simp [show ¬ 0 ≤ n by omega])
    have z1 : decide (n < 0) = true := by simpa using h1
    clear hf hk2 q7 q8 q9 ex ey
    go_wp2_with (first
      | (go_at_call 60; go_must (with_reducible refine (St.callPast (k1 _) H).mono ?_; clear c0 c1 c2 c3 c4 c5 d0 d1 d2 d3 H; rintro e w2 ⟨rfl, H⟩; have c0 := H.cell 1 0 rfl rfl; have c1 := H.cell 1 1 rfl rfl; have c2 := H.cell 1 2 rfl rfl; have c3 := H.cell 1 3 rfl rfl; have c4 := H.cell 1 4 rfl rfl; have c5 := H.cell 1 5 rfl rfl; have d0 := H.cell 0 0 rfl rfl; have d1 := H.cell 0 1 rfl rfl; have d2 := H.cell 0 2 rfl rfl; have d3 := H.cell 0 3 rfl rfl))
      | (go_at_call 148; go_must (with_reducible refine (St.callPast (k4 _) H).mono ?_; clear c0 c1 c2 c3 c4 c5 d0 d1 d2 d3 H; rintro e w2 ⟨rfl, H⟩; have c0 := H.cell 1 0 rfl rfl; have c1 := H.cell 1 1 rfl rfl; have c2 := H.cell 1 2 rfl rfl; have c3 := H.cell 1 3 rfl rfl; have c4 := H.cell 1 4 rfl rfl; have c5 := H.cell 1 5 rfl rfl; have d0 := H.cell 0 0 rfl rfl; have d1 := H.cell 0 1 rfl rfl; have d2 := H.cell 0 2 rfl rfl; have d3 := H.cell 0 3 rfl rfl))
      | (go_at_call 149; go_must (with_reducible refine (St.callPast (k5 _ (hr0.later H.kept)) H).mono ?_; clear c0 c1 c2 c3 c4 c5 d0 d1 d2 d3 H; rintro e w2 ⟨rfl, H⟩; have c0 := H.cell 1 0 rfl rfl; have c1 := H.cell 1 1 rfl rfl; have c2 := H.cell 1 2 rfl rfl; have c3 := H.cell 1 3 rfl rfl; have c4 := H.cell 1 4 rfl rfl; have c5 := H.cell 1 5 rfl rfl; have d0 := H.cell 0 0 rfl rfl; have d1 := H.cell 0 1 rfl rfl; have d2 := H.cell 0 2 rfl rfl; have d3 := H.cell 0 3 rfl rfl))
      | (go_at_call 150; go_must (with_reducible refine (k6 _).mono ?_; rintro e w2 ⟨rfl, rfl⟩)))
    go_ret
    rw [hR.out]
    exact ⟨rfl, H.below (Nat.le_refl _) (fun _ h => h.elim)⟩
  case inr.inr.inl =>
    have hR := Lib.hid (show R = false by rw [hf.out]; simp [show ¬ n ≤ 1073741824 by omega])
    have z1 : decide (n < 0) = false := (by simpa using h1)
    have z2 : decide (1073741824 < n) = true := (by simpa using h2)
    clear h1 h2
    clear hf hk2 q7 q8 q9 ex ey
    go_wp2_with (first
      | (go_at_call 60; go_must (with_reducible refine (St.callPast (k1 _) H).mono ?_; clear c0 c1 c2 c3 c4 c5 d0 d1 d2 d3 H; rintro e w2 ⟨rfl, H⟩; have c0 := H.cell 1 0 rfl rfl; have c1 := H.cell 1 1 rfl rfl; have c2 := H.cell 1 2 rfl rfl; have c3 := H.cell 1 3 rfl rfl; have c4 := H.cell 1 4 rfl rfl; have c5 := H.cell 1 5 rfl rfl; have d0 := H.cell 0 0 rfl rfl; have d1 := H.cell 0 1 rfl rfl; have d2 := H.cell 0 2 rfl rfl; have d3 := H.cell 0 3 rfl rfl))
      | (go_at_call 148; go_must (with_reducible refine (St.callPast (k4 _) H).mono ?_; clear c0 c1 c2 c3 c4 c5 d0 d1 d2 d3 H; rintro e w2 ⟨rfl, H⟩; have c0 := H.cell 1 0 rfl rfl; have c1 := H.cell 1 1 rfl rfl; have c2 := H.cell 1 2 rfl rfl; have c3 := H.cell 1 3 rfl rfl; have c4 := H.cell 1 4 rfl rfl; have c5 := H.cell 1 5 rfl rfl; have d0 := H.cell 0 0 rfl rfl; have d1 := H.cell 0 1 rfl rfl; have d2 := H.cell 0 2 rfl rfl; have d3 := H.cell 0 3 rfl rfl))
      | (go_at_call 149; go_must (with_reducible refine (St.callPast (k5 _ (hr0.later H.kept)) H).mono ?_; clear c0 c1 c2 c3 c4 c5 d0 d1 d2 d3 H; rintro e w2 ⟨rfl, H⟩; have c0 := H.cell 1 0 rfl rfl; have c1 := H.cell 1 1 rfl rfl; have c2 := H.cell 1 2 rfl rfl; have c3 := H.cell 1 3 rfl rfl; have c4 := H.cell 1 4 rfl rfl; have c5 := H.cell 1 5 rfl rfl; have d0 := H.cell 0 0 rfl rfl; have d1 := H.cell 0 1 rfl rfl; have d2 := H.cell 0 2 rfl rfl; have d3 := H.cell 0 3 rfl rfl))
      | (go_at_call 150; go_must (with_reducible refine (k6 _).mono ?_; rintro e w2 ⟨rfl, rfl⟩)))
    go_ret
    rw [hR.out]
    exact ⟨rfl, H.below (Nat.le_refl _) (fun _ h => h.elim)⟩
  case inr.inr.inr.inl =>
    have hR := Lib.hid (show R = false by rw [hf.out]; simp)
    have z1 : decide (n < 0) = false := (by simpa using h1)
    have z2 : decide (1073741824 < n) = false := (by simpa using h2)
    clear h1 h2
    clear hf hk2 q7 q8 q9 ex ey
    go_wp2_with (first
      | (go_at_call 60; go_must (with_reducible refine (St.callPast (k1 _) H).mono ?_; clear c0 c1 c2 c3 c4 c5 d0 d1 d2 d3 H; rintro e w2 ⟨rfl, H⟩; have c0 := H.cell 1 0 rfl rfl; have c1 := H.cell 1 1 rfl rfl; have c2 := H.cell 1 2 rfl rfl; have c3 := H.cell 1 3 rfl rfl; have c4 := H.cell 1 4 rfl rfl; have c5 := H.cell 1 5 rfl rfl; have d0 := H.cell 0 0 rfl rfl; have d1 := H.cell 0 1 rfl rfl; have d2 := H.cell 0 2 rfl rfl; have d3 := H.cell 0 3 rfl rfl))
      | (go_at_call 148; go_must (with_reducible refine (St.callPast (k4 _) H).mono ?_; clear c0 c1 c2 c3 c4 c5 d0 d1 d2 d3 H; rintro e w2 ⟨rfl, H⟩; have c0 := H.cell 1 0 rfl rfl; have c1 := H.cell 1 1 rfl rfl; have c2 := H.cell 1 2 rfl rfl; have c3 := H.cell 1 3 rfl rfl; have c4 := H.cell 1 4 rfl rfl; have c5 := H.cell 1 5 rfl rfl; have d0 := H.cell 0 0 rfl rfl; have d1 := H.cell 0 1 rfl rfl; have d2 := H.cell 0 2 rfl rfl; have d3 := H.cell 0 3 rfl rfl))
      | (go_at_call 149; go_must (with_reducible refine (St.callPast (k5 _ (hr0.later H.kept)) H).mono ?_; clear c0 c1 c2 c3 c4 c5 d0 d1 d2 d3 H; rintro e w2 ⟨rfl, H⟩; have c0 := H.cell 1 0 rfl rfl; have c1 := H.cell 1 1 rfl rfl; have c2 := H.cell 1 2 rfl rfl; have c3 := H.cell 1 3 rfl rfl; have c4 := H.cell 1 4 rfl rfl; have c5 := H.cell 1 5 rfl rfl; have d0 := H.cell 0 0 rfl rfl; have d1 := H.cell 0 1 rfl rfl; have d2 := H.cell 0 2 rfl rfl; have d3 := H.cell 0 3 rfl rfl))
      | (go_at_call 150; go_must (with_reducible refine (k6 _).mono ?_; rintro e w2 ⟨rfl, rfl⟩)))
    go_ret
    rw [hR.out]
    exact ⟨rfl, H.below (Nat.le_refl _) (fun _ h => h.elim)⟩
  case inr.inr.inr.inr.inl =>
    have hR := Lib.hid (show R = false by rw [hf.out]; simp)
    have z1 : decide (n < 0) = false := (by simpa using h1)
    have z2 : decide (1073741824 < n) = false := (by simpa using h2)
    clear h1 h2
    clear hf hk2 q7 q8 q9 ex ey
    go_wp2_with (first
      | (go_at_call 60; go_must (with_reducible refine (St.callPast (k1 _) H).mono ?_; clear c0 c1 c2 c3 c4 c5 d0 d1 d2 d3 H; rintro e w2 ⟨rfl, H⟩; have c0 := H.cell 1 0 rfl rfl; have c1 := H.cell 1 1 rfl rfl; have c2 := H.cell 1 2 rfl rfl; have c3 := H.cell 1 3 rfl rfl; have c4 := H.cell 1 4 rfl rfl; have c5 := H.cell 1 5 rfl rfl; have d0 := H.cell 0 0 rfl rfl; have d1 := H.cell 0 1 rfl rfl; have d2 := H.cell 0 2 rfl rfl; have d3 := H.cell 0 3 rfl rfl))
      | (go_at_call 148; go_must (with_reducible refine (St.callPast (k4 _) H).mono ?_; clear c0 c1 c2 c3 c4 c5 d0 d1 d2 d3 H; rintro e w2 ⟨rfl, H⟩; have c0 := H.cell 1 0 rfl rfl; have c1 := H.cell 1 1 rfl rfl; have c2 := H.cell 1 2 rfl rfl; have c3 := H.cell 1 3 rfl rfl; have c4 := H.cell 1 4 rfl rfl; have c5 := H.cell 1 5 rfl rfl; have d0 := H.cell 0 0 rfl rfl; have d1 := H.cell 0 1 rfl rfl; have d2 := H.cell 0 2 rfl rfl; have d3 := H.cell 0 3 rfl rfl))
      | (go_at_call 149; go_must (with_reducible refine (St.callPast (k5 _ (hr0.later H.kept)) H).mono ?_; clear c0 c1 c2 c3 c4 c5 d0 d1 d2 d3 H; rintro e w2 ⟨rfl, H⟩; have c0 := H.cell 1 0 rfl rfl; have c1 := H.cell 1 1 rfl rfl; have c2 := H.cell 1 2 rfl rfl; have c3 := H.cell 1 3 rfl rfl; have c4 := H.cell 1 4 rfl rfl; have c5 := H.cell 1 5 rfl rfl; have d0 := H.cell 0 0 rfl rfl; have d1 := H.cell 0 1 rfl rfl; have d2 := H.cell 0 2 rfl rfl; have d3 := H.cell 0 3 rfl rfl))
      | (go_at_call 150; go_must (with_reducible refine (k6 _).mono ?_; rintro e w2 ⟨rfl, rfl⟩)))
    go_ret
    rw [hR.out]
    exact ⟨rfl, H.below (Nat.le_refl _) (fun _ h => h.elim)⟩
  case inr.inr.inr.inr.inr =>
    have hR := Lib.hid (show R = ((decide (ag = 7) || (bx && by')) && b6 && (decide (0 < n) || (decide (a = 0) && (bx && by')))) by rw [hf.out]; simp [show 0 ≤ n by omega, show n ≤ 1073741824 by omega])
    have z1 : decide (n < 0) = false := (by simpa using h1)
    have z2 : decide (1073741824 < n) = false := (by simpa using h2)
    clear h1 h2
    clear hf
    rcases hk2.out with ⟨h7, rfl⟩ | ⟨h7, rfl, rfl⟩ | ⟨h7, rfl, rfl, rfl⟩ | ⟨h7, rfl⟩ | ⟨h7, rfl, rfl, rfl, hn⟩ | ⟨h7, rfl, hn⟩ | ⟨h7, rfl, rfl, rfl, hn, ha⟩ | ⟨h7, rfl, rfl, rfl, hn, ha⟩ | ⟨h7, rfl, hn, ha⟩ | ⟨h7, rfl, hn, ha, rfl⟩ | ⟨h7, rfl, hn, ha, rfl⟩
    all_goals
      first
        | (have t7 := decide_eq_true h7; have y7 : (ag == 7) = true := (by rw [q7.out, t7]); have y8 : (ag != 7) = false := (by rw [q8.out, t7]; rfl); rw [t7] at hR)
        | (have t7 := decide_eq_false h7; have y7 : (ag == 7) = false := (by rw [q7.out, t7]); have y8 : (ag != 7) = true := (by rw [q8.out, t7]; rfl); rw [t7] at hR)
    all_goals
      try first
        | (have z3 : decide (0 < n) = true := decide_eq_true hn; rw [z3] at hR)
        | (have z3 : decide (0 < n) = false := decide_eq_false hn; rw [z3] at hR)
      try first
        | (have z4 : decide (a = 0) = true := decide_eq_true ha; have z5 : (a == 0) = true := (by rw [q9.out, z4]); rw [z4] at hR)
        | (have z4 : decide (a = 0) = false := decide_eq_false ha; have z5 : (a == 0) = false := (by rw [q9.out, z4]); rw [z4] at hR)
      try clear hn
      try clear ha
      clear h7 q7 q8 q9 t7 hk2
      go_wp2_with (first
        | (go_at_call 60; go_must (with_reducible refine (St.callPast (k1 _) H).mono ?_; clear c0 c1 c2 c3 c4 c5 d0 d1 d2 d3 H; rintro e w2 ⟨rfl, H⟩; have c0 := H.cell 1 0 rfl rfl; have c1 := H.cell 1 1 rfl rfl; have c2 := H.cell 1 2 rfl rfl; have c3 := H.cell 1 3 rfl rfl; have c4 := H.cell 1 4 rfl rfl; have c5 := H.cell 1 5 rfl rfl; have d0 := H.cell 0 0 rfl rfl; have d1 := H.cell 0 1 rfl rfl; have d2 := H.cell 0 2 rfl rfl; have d3 := H.cell 0 3 rfl rfl))
        | (go_at_call 148; go_must (with_reducible refine (St.callPast (k4 _) H).mono ?_; clear c0 c1 c2 c3 c4 c5 d0 d1 d2 d3 H; rintro e w2 ⟨rfl, H⟩; have c0 := H.cell 1 0 rfl rfl; have c1 := H.cell 1 1 rfl rfl; have c2 := H.cell 1 2 rfl rfl; have c3 := H.cell 1 3 rfl rfl; have c4 := H.cell 1 4 rfl rfl; have c5 := H.cell 1 5 rfl rfl; have d0 := H.cell 0 0 rfl rfl; have d1 := H.cell 0 1 rfl rfl; have d2 := H.cell 0 2 rfl rfl; have d3 := H.cell 0 3 rfl rfl))
        | (go_at_call 149; go_must (with_reducible refine (St.callPast (k5 _ (hr0.later H.kept)) H).mono ?_; clear c0 c1 c2 c3 c4 c5 d0 d1 d2 d3 H; rintro e w2 ⟨rfl, H⟩; have c0 := H.cell 1 0 rfl rfl; have c1 := H.cell 1 1 rfl rfl; have c2 := H.cell 1 2 rfl rfl; have c3 := H.cell 1 3 rfl rfl; have c4 := H.cell 1 4 rfl rfl; have c5 := H.cell 1 5 rfl rfl; have d0 := H.cell 0 0 rfl rfl; have d1 := H.cell 0 1 rfl rfl; have d2 := H.cell 0 2 rfl rfl; have d3 := H.cell 0 3 rfl rfl))
        | (go_at_call 150; go_must (with_reducible refine (k6 _).mono ?_; rintro e w2 ⟨rfl, rfl⟩)))
      go_ret
      rw [hR.out]
      exact ⟨ret_bool (by simp), H.below (Nat.le_refl _) (fun _ h => h.elim)⟩

end Go.Proofs.YtiglgfonhdfpmaaGreat

/- The walks of the aggregates' joined, floor, single, copied; slices.Clone at ints. -/
set_option linter.unusedVariables false
set_option linter.unusedSimpArgs false
namespace Go.Proofs.YtiglgfonhdfpmaaGreat
open Go.RowKit

theorem one_ints (l : List Int) : ∀ u ∈ intCells l, u.oneCell' = true := by
  intro u hu
  obtain ⟨x, -, rfl⟩ := List.mem_map.1 hu
  rfl
set_option maxHeartbeats 1000000 in
set_option maxRecDepth 100000 in
theorem ints_clone {v : Value} {l : List Int} {w : World} (hv : IntsRO w v l) (hl : l.length ≤ 1073741824) :
    Calls Tryz.prog 82 #[v] w fun e w' => ∃ v', e = .returned v' ∧ St (fun _ => False) w w' [Row 3 1 v' l.length (intCells l)] := by
  obtain ⟨ad, cap, rfl, hcap, hint, hcell⟩ := hv
  cases ad with
  | none =>
    obtain rfl : l = [] := by
      by_cases h : l = []
      · exact h
      · obtain ⟨b, o, e, _⟩ := hcell h
        cases e
    have hq := fun w => Lib.run_eql_slice_nil (P := Tryz.prog) w 33 3 none 0 cap 0 0 Tryz.underlying33
    go_enter Tryz.func82, Tryz.ntmps82
    go_wp2
    go_ret
    exact ⟨_, rfl, (St.nil _ w).row_nil 3 1⟩
  | some a =>
    have hnew : St (fun _ => False) w (w.alloc (.cells #[] 3)) [Row 3 1 (.slice (some ⟨w.heap.size, 0, none⟩) 0 0) 0 []] := by
      refine ⟨(Kept.refl _ _).alloc _, fun k => k = w.heap.size, ⟨?_, fun k => by simp [Value.ownBlock, eq_comm]⟩, fun k h => .inr (by omega), trivial⟩
      exact World.ownsRow_lit w #[] 0 (Nat.zero_le _) (by simp [maxLen]) rfl
    have hlen : (intCells l).length = l.length * 1 := by simp [intCells]
    have hnews : ∀ p, some a = some p → ∀ j u, (intCells l)[j]? = some u → (w.alloc (.cells #[] 3)).cell? (p.add j) = some u := by
      intro p hp j u hj
      refine Lib.cell?_alloc_some _ ?_
      cases hp
      have hjl : j < l.length := by have := (List.getElem?_eq_some_iff.1 hj).1; simpa [intCells] using this
      obtain ⟨b, o, e, hb, hc⟩ := hcell (by rintro rfl; simp at hjl)
      cases e
      have := hc j l[j] (List.getElem?_eq_getElem hjl)
      have e2 : u = .int .i64 l[j] := by
        have : (intCells l)[j]? = some (.int .i64 l[j]) := by simp [intCells, hjl]
        rw [hj] at this
        exact Option.some.inj this
      rw [e2, Addr.add_mid, this]
    have hb : (0 + l.length) * 8 ≤ 140737488355328 := by omega
    have h1 := one_ints l
    clear hcell
    have hq := fun w => Lib.run_eql_slice_nil (P := Tryz.prog) w 33 3 (some a) l.length cap 0 0 Tryz.underlying33
    go_enter Tryz.func82, Tryz.ntmps82
    go_wp2_with (at_builtin; go_must (refine St.list_add hnew 0 rfl rfl (.tmp 5) (.tmp 6) 33 rfl Tryz.underlying33 Tryz.info3 (by decide) rfl (intCells l) rfl hlen (by intro h; cases h) hnews h1 hb ?_; intro v' w1 H1 hz))
    go_ret
    exact ⟨v', rfl, by simpa using H1⟩
set_option maxHeartbeats 1000000 in
set_option maxRecDepth 100000 in
theorem agg_joined (q : Qry) {a b : Int} (ha : a.natAbs ≤ 4398046511104) (hb : b.natAbs ≤ 4398046511104) (w : World) : Calls Tryz.prog 285 #[qyV q, .int .i64 a, .int .i64 b] w fun e w' => e = .returned (.int .i64 (joinedM q a b)) ∧ Below w.heap.size w w' := by
  obtain ⟨kd, sz, sl, lt, ag, kk⟩ := q
  have hf0 : joinedM ⟨kd, sz, sl, lt, ag, kk⟩ a b = if ag = 3 then min a b else if ag = 4 then max a b else a + b := rfl
  unfold qyV qyC
  simp only
  have hw : IntKind.i64.wrap (a + b) = a + b := by rw [IntKind.wrap_i64]; omega
  obtain ⟨m, hm⟩ : ∃ m, min a b = m := ⟨_, rfl⟩
  have hm2 : (if a < b then a else b) = m := by rw [← hm]; split <;> omega
  obtain ⟨M, hM⟩ : ∃ m, max a b = m := ⟨_, rfl⟩
  have hM2 : (if a < b then b else a) = M := by rw [← hM]; split <;> omega
  have H := (St.nil (fun _ => False) w).allocAt rfl #[.int .i64 kd, .int .i64 sz, .int .i64 sl, .int .i64 lt, .int .i64 ag, .int .i64 kk] 23
  have c4 := H.cell 0 4 rfl rfl
  go_enter Tryz.func285, Tryz.ntmps285
  by_cases h3 : ag = 3
  · have y3 : (ag == 3) = true := by simpa using h3
    have hf := Lib.hid (show joinedM ⟨kd, sz, sl, lt, ag, kk⟩ a b = m by rw [hf0, if_pos h3, hm])
    clear h3 hf0
    go_wp2
    go_ret
    rw [hf.out]
    exact ⟨rfl, H.below (Nat.le_refl _) (fun _ h => h.elim)⟩
  · have y3 : (ag == 3) = false := by simpa using h3
    by_cases h4 : ag = 4
    · have y4 : (ag == 4) = true := by simpa using h4
      have hf := Lib.hid (show joinedM ⟨kd, sz, sl, lt, ag, kk⟩ a b = M by rw [hf0, if_neg h3, if_pos h4, hM])
      clear h3 h4 hf0
      go_wp2
      go_ret
      rw [hf.out]
      exact ⟨rfl, H.below (Nat.le_refl _) (fun _ h => h.elim)⟩
    · have y4 : (ag == 4) = false := by simpa using h4
      have hf := Lib.hid (show joinedM ⟨kd, sz, sl, lt, ag, kk⟩ a b = a + b by rw [hf0, if_neg h3, if_neg h4])
      clear h3 h4 hf0
      go_wp2
      go_ret
      rw [hf.out]
      exact ⟨rfl, H.below (Nat.le_refl _) (fun _ h => h.elim)⟩
set_option maxHeartbeats 1000000 in
set_option maxRecDepth 100000 in
theorem agg_floor {a n : Int} (ha : a.natAbs ≤ 4398046511104) (hn : 0 < n ∧ n ≤ 4398046511104) (w : World) : Calls Tryz.prog 81 #[.int .i64 a, .int .i64 n] w fun e w' => e = .returned (.int .i64 (floorM a n)) ∧ w' = w := by
  have ht : a = n * a.tdiv n + a.tmod n := (Int.mul_tdiv_add_tmod a n).symm
  have hlt := Int.tmod_lt_of_pos a hn.1
  have hgt : -n < a.tmod n := by
    have := Int.lt_tmod_of_pos a hn.1
    omega
  have hq : (a.tdiv n).natAbs ≤ 4398046511104 := by
    rw [Int.natAbs_tdiv]
    exact Nat.le_trans (Nat.div_le_self _ _) ha
  have w1 : IntKind.i64.wrap (a.tmod n) = a.tmod n := by rw [IntKind.wrap_i64]; omega
  have w2 : IntKind.i64.wrap (a.tdiv n) = a.tdiv n := by rw [IntKind.wrap_i64]; omega
  have w3 : IntKind.i64.wrap (a.tdiv n - 1) = a.tdiv n - 1 := by rw [IntKind.wrap_i64]; omega
  have z0 : (n == 0) = false := by simp; omega
  by_cases h : a.tmod n < 0
  · have hf := Lib.hid (show floorM a n = a.tdiv n - 1 by
      unfold floorM
      rw [Int.ediv_eq_iff_of_pos hn.1]
      constructor
      · rw [Int.sub_mul, Int.one_mul, Int.mul_comm]; omega
      · rw [Int.sub_mul, Int.one_mul, Int.mul_comm]; omega)
    have z1 : decide (a.tmod n < 0) = true := by simpa using h
    obtain ⟨Q, hQ⟩ : ∃ Q, a.tdiv n = Q := ⟨_, rfl⟩
    obtain ⟨R, hR⟩ : ∃ R, a.tmod n = R := ⟨_, rfl⟩
    rw [hR] at w1 z1
    rw [hQ] at w2 w3 hf
    clear ht hlt hgt hq h
    go_enter Tryz.func81, Tryz.ntmps81
    go_wp2
    go_ret
    rw [hf.out]
    exact ⟨rfl, rfl⟩
  · have hf := Lib.hid (show floorM a n = a.tdiv n by
      unfold floorM
      rw [Int.ediv_eq_iff_of_pos hn.1]
      constructor
      · rw [Int.mul_comm]; omega
      · rw [Int.mul_comm]; omega)
    have z1 : decide (a.tmod n < 0) = false := by simpa using h
    obtain ⟨Q, hQ⟩ : ∃ Q, a.tdiv n = Q := ⟨_, rfl⟩
    obtain ⟨R, hR⟩ : ∃ R, a.tmod n = R := ⟨_, rfl⟩
    rw [hR] at w1 z1
    rw [hQ] at w2 w3 hf
    clear ht hlt hgt hq h
    go_enter Tryz.func81, Tryz.ntmps81
    go_wp2
    go_ret
    rw [hf.out]
    exact ⟨rfl, rfl⟩

end Go.Proofs.YtiglgfonhdfpmaaGreat

/- The walks of the aggregates' single and copied. -/
set_option linter.unusedVariables false
set_option linter.unusedSimpArgs false
namespace Go.Proofs.YtiglgfonhdfpmaaGreat
open Go.RowKit

theorem results_ag {P : Program} {fn : Func} {t : Tmp} {ty : TypeId} (h : fn.results = #[.cell t ty]) {tmps : Array Value} {w : World} {b : Nat} {cs : List Value} {d : TypeDesc} (ht : tmps.getD t undef = .pointer (some ⟨b, 0, none⟩)) (hr : w.rangeAt b 0 cs)
    (hu : P.underlying ty = some d) (hd : d.isRow = true) (hi : (P.info? ty).map (·.size) = some cs.length) : (results fn tmps).run P w = .ok (.agg cs.toArray) w := by
  have h2 := run_loadVar_mid (P := P) w b 0 ty cs d hr hu hd hi
  have h3 : tmps[t]?.getD undef = .pointer (some ⟨b, 0, none⟩) := by simpa using ht
  simp [results, h, h3, asAddr, h2]
theorem blk_ag {w : World} {g : Nat} {t : TypeId} {f : Nat × Nat} {cs : List Value} (h : w.heap[g]? = some (.cells cs.toArray t f)) : w.rangeAt g 0 cs := fun j u hj => by rw [Nat.zero_add, cell_blk h]; simpa using hj
@[go_sem] theorem run_store_complex {P : Program} {w : World} {a : Addr} {m : Mode} (k : FloatKind) (x y : Nat) : (store a (.complex k x y) m).run P w = stored P w a (.complex k x y) m := run_store P w a _ m rfl
abbrev agZ : Array Value := #[.int .i64 0, .int .i64 0, .slice none 0 0, .complex .f64 0 0]
set_option maxHeartbeats 1000000 in
set_option maxRecDepth 100000 in
theorem agg_single (q : Qry) {v : Int} (hv : -9223372036854775808 ≤ v ∧ v ≤ 9223372036854775807) (w : World) :
    Calls Tryz.prog 251 #[qyV q, .int .i64 v] w fun e w' => ∃ h, e = .returned (agV (singleM q v) h) ∧ St (fun _ => False) w w' [Row 3 1 h (singleM q v).top.length (intCells (singleM q v).top)] := by
  have kt := fun w' => gauss_turn hv w'
  obtain ⟨kd, sz, sl, lt, ag, kk⟩ := q
  have hf0 : singleM ⟨kd, sz, sl, lt, ag, kk⟩ v = if 2 ≤ ag ∧ ag ≤ 5 then ⟨1, v, [], 0, 0⟩ else if ag = 6 then ⟨1, 0, [v], 0, 0⟩ else if ag = 7 then ⟨1, 0, [], turnX v, turnY v⟩ else ⟨1, 0, [], 0, 0⟩ := rfl
  have e0 := ib_zero
  unfold qyV qyC
  simp only
  obtain ⟨b, hb⟩ : ∃ g, w.heap.size = g := ⟨_, rfl⟩
  obtain ⟨b2, hb2⟩ : ∃ b2, b + 1 = b2 := ⟨_, rfl⟩
  have H0 : St (fun _ => False) w _ [_] := (St.nil _ w).allocAt hb #[.int .i64 kd, .int .i64 sz, .int .i64 sl, .int .i64 lt, .int .i64 ag, .int .i64 kk] 23
  have H := H0.allocAt (B := b2) (by rw [← hb2, ← hb]; exact Array.size_push _) agZ 66
  obtain ⟨w1, hw1⟩ : ∃ w1, (w.alloc (.cells #[.int .i64 kd, .int .i64 sz, .int .i64 sl, .int .i64 lt, .int .i64 ag, .int .i64 kk] 23)).alloc (.cells agZ 66) = w1 := ⟨_, rfl⟩
  rw [hw1] at H
  unfold agZ at *
  go_enter Tryz.func251, Tryz.ntmps251
  go_upto_region 1 with (fail)
  try simp only [hb, hb2]
  try rw [hw1]
  clear hw1 hb hb2 H0
  obtain ⟨b3, hb3⟩ : ∃ g, w1.heap.size = g := ⟨_, rfl⟩
  have H3 := H.allocAt hb3 #[.int .i64 0, .int .i64 0, .slice none 0 0, .complex .f64 0 0] 66
  have p0 := H3.free 0 0 rfl
  have p1 := H3.free 0 1 rfl
  have p2 := H3.free 0 2 rfl
  have p3 := H3.free 0 3 rfl
  have o0 := H3.cell 0 0 rfl rfl
  have o1 := H3.cell 0 1 rfl rfl
  have o2 := H3.cell 0 2 rfl rfl
  have o3 := H3.cell 0 3 rfl rfl
  have H4 := H.allocAt hb3 #[.int .i64 1, .int .i64 0, .slice none 0 0, .complex .f64 0 0] 66
  go_upto_region 2 with (fail)
  clear H3 p0 p1 p2 p3 o0 o1 o2 o3
  obtain ⟨w2, hw2⟩ : ∃ w2, w1.alloc (.cells #[.int .i64 1, .int .i64 0, .slice none 0 0, .complex .f64 0 0] 66) = w2 := ⟨_, rfl⟩
  rw [hw2] at H4 ⊢
  clear hw2 hb3 H
  have c4 := H4.cell 2 4 rfl rfl
  have p0 := H4.free 0 0 rfl
  have p1 := H4.free 0 1 rfl
  have p2 := H4.free 0 2 rfl
  have p3 := H4.free 0 3 rfl
  have o0 := H4.cell 0 0 rfl rfl
  have o1 := H4.cell 0 1 rfl rfl
  have o2 := H4.cell 0 2 rfl rfl
  have o3 := H4.cell 0 3 rfl rfl
  have r0 := H4.free 1 0 rfl
  have r1 := H4.free 1 1 rfl
  have r2 := H4.free 1 2 rfl
  have r3 := H4.free 1 3 rfl
  have x0 := H4.cell 1 0 rfl rfl
  have x1 := H4.cell 1 1 rfl rfl
  have x2 := H4.cell 1 2 rfl rfl
  have x3 := H4.cell 1 3 rfl rfl
  have hk : (2 ≤ ag ∧ ag ≤ 5) ∨ ag = 6 ∨ ag = 7 ∨ (¬ (2 ≤ ag ∧ ag ≤ 5) ∧ ag ≠ 6 ∧ ag ≠ 7) := by omega
  rcases hk with h | rfl | rfl | ⟨h, h6, h7⟩
  case inl =>
    have hf := Lib.hid (show singleM ⟨kd, sz, sl, lt, ag, kk⟩ v = ⟨1, v, [], 0, 0⟩ by rw [hf0, if_pos h])
    have hk : ag = 2 ∨ ag = 5 ∨ ag = 3 ∨ ag = 4 := by omega
    clear hf0 h
    rcases hk with rfl | rfl | rfl | rfl
    all_goals
      have H6 := H4.set 0 rfl 1 (.int .i64 v)
      go_upto_region 12 with (fail)
      obtain ⟨w5, hw5⟩ : ∃ w5, w2.setCell ⟨b3, 1, none⟩ (.int .i64 v) = w5 := ⟨_, rfl⟩
      rw [hw5] at H6
      try rw [hw5]
      clear hw5 H4 p0 p1 p2 p3 o0 o1 o2 o3 r0 r1 r2 r3 x0 x1 x2 x3 c4
      have H6 : St (fun _ => False) w w5 [Blk b3 #[.int .i64 1, .int .i64 v, .slice none 0 0, .complex .f64 0 0] 66, Blk b2 #[.int .i64 0, .int .i64 0, .slice none 0 0, .complex .f64 0 0] 66, _] := H6
      have p0 := H6.free 0 0 rfl
      have p1 := H6.free 0 1 rfl
      have p2 := H6.free 0 2 rfl
      have p3 := H6.free 0 3 rfl
      have o0 := H6.cell 0 0 rfl rfl
      have o1 := H6.cell 0 1 rfl rfl
      have o2 := H6.cell 0 2 rfl rfl
      have o3 := H6.cell 0 3 rfl rfl
      have r0 := H6.free 1 0 rfl
      have r1 := H6.free 1 1 rfl
      have r2 := H6.free 1 2 rfl
      have r3 := H6.free 1 3 rfl
      have x0 := H6.cell 1 0 rfl rfl
      have x1 := H6.cell 1 1 rfl rfl
      have x2 := H6.cell 1 2 rfl rfl
      have x3 := H6.cell 1 3 rfl rfl
      have HR := (((H6.set 1 rfl 0 (.int .i64 1)).set 1 rfl 1 (.int .i64 v)).set 1 rfl 2 (.slice none 0 0)).set 1 rfl 3 (.complex .f64 0 0)
      go_wp2
      try simp only [Exit.inBlock, Exit.then]
      refine bodyPost_ret (results_ag rfl rfl (blk_ag (cs := [.int .i64 1, .int .i64 v, .slice none 0 0, .complex .f64 0 0]) (HR.blk 1 rfl)) Tryz.underlying66 rfl (by kernel_rfl)) rfl ?_
      rw [hf.out]
      refine ⟨.slice none 0 0, ?_, ((HR.row_nil 3 1).pick [0])⟩
      rw [agV, agC, e0]
  case inr.inl =>
    have hf := Lib.hid (show singleM ⟨kd, sz, sl, lt, 6, kk⟩ v = ⟨1, 0, [v], 0, 0⟩ by rw [hf0]; simp)
    clear hf0
    obtain ⟨b4, hb4⟩ : ∃ g, w2.heap.size = g := ⟨_, rfl⟩
    go_upto_region 9 with (fail)
    have H5 := H4.allocAt hb4 #[.int .i64 v] 3
    clear p0 p1 p2 p3 o0 o1 o2 o3 r0 r1 r2 r3 x0 x1 x2 x3 c4
    have p0 := H5.free 1 0 rfl
    have p1 := H5.free 1 1 rfl
    have p2 := H5.free 1 2 rfl
    have p3 := H5.free 1 3 rfl
    have o0 := H5.cell 1 0 rfl rfl
    have o1 := H5.cell 1 1 rfl rfl
    have o2 := H5.cell 1 2 rfl rfl
    have o3 := H5.cell 1 3 rfl rfl
    have H6 := H5.set 1 rfl 2 (.slice (some ⟨b4, 0, none⟩) 1 1)
    go_upto_region 12 with (fail)
    obtain ⟨w5, hw5⟩ : ∃ w5, (w2.alloc (.cells #[.int .i64 v] 3)).setCell ⟨b3, 2, none⟩ (.slice (some ⟨b4, 0, none⟩) 1 1) = w5 := ⟨_, rfl⟩
    rw [hw5] at H6
    try rw [hw5]
    clear hw5 hb4 H5 H4 p0 p1 p2 p3 o0 o1 o2 o3
    have H6 : St (fun _ => False) w w5 [Blk b4 #[.int .i64 v] 3, Blk b3 #[.int .i64 1, .int .i64 0, .slice (some ⟨b4, 0, none⟩) 1 1, .complex .f64 0 0] 66, Blk b2 #[.int .i64 0, .int .i64 0, .slice none 0 0, .complex .f64 0 0] 66, _] := H6
    have p0 := H6.free 1 0 rfl
    have p1 := H6.free 1 1 rfl
    have p2 := H6.free 1 2 rfl
    have p3 := H6.free 1 3 rfl
    have o0 := H6.cell 1 0 rfl rfl
    have o1 := H6.cell 1 1 rfl rfl
    have o2 := H6.cell 1 2 rfl rfl
    have o3 := H6.cell 1 3 rfl rfl
    have r0 := H6.free 2 0 rfl
    have r1 := H6.free 2 1 rfl
    have r2 := H6.free 2 2 rfl
    have r3 := H6.free 2 3 rfl
    have x0 := H6.cell 2 0 rfl rfl
    have x1 := H6.cell 2 1 rfl rfl
    have x2 := H6.cell 2 2 rfl rfl
    have x3 := H6.cell 2 3 rfl rfl
    have HR := (((H6.set 2 rfl 0 (.int .i64 1)).set 2 rfl 1 (.int .i64 0)).set 2 rfl 2 (.slice (some ⟨b4, 0, none⟩) 1 1)).set 2 rfl 3 (.complex .f64 0 0)
    go_wp2
    try simp only [Exit.inBlock, Exit.then]
    refine bodyPost_ret (results_ag rfl rfl (blk_ag (cs := [.int .i64 1, .int .i64 0, .slice (some ⟨b4, 0, none⟩) 1 1, .complex .f64 0 0]) (HR.blk 2 rfl)) Tryz.underlying66 rfl (by kernel_rfl)) rfl ?_
    rw [hf.out]
    refine ⟨.slice (some ⟨b4, 0, none⟩) 1 1, ?_, (HR.blk_row 0 (e := 3) (size := 1) (cap := 1) (n := 1) (cs := [.int .i64 v]) (xs := intCells [v]) rfl (Nat.le_refl _) (by decide) rfl rfl).pick [0]⟩
    rw [agV, agC, e0]
  case inr.inr.inl =>
    have hf := Lib.hid (show singleM ⟨kd, sz, sl, lt, 7, kk⟩ v = ⟨1, 0, [], turnX v, turnY v⟩ by rw [hf0]; simp)
    clear hf0
    obtain ⟨X, hX⟩ : ∃ X, ib (turnX v) = X := ⟨_, rfl⟩
    obtain ⟨Y, hY⟩ : ∃ Y, ib (turnY v) = Y := ⟨_, rfl⟩
    simp only [hX, hY] at kt
    have hXh := Lib.hid hX
    have hYh := Lib.hid hY
    clear hX hY
    have H6 := H4.set 0 rfl 3 (.complex .f64 X Y)
    go_upto_region 12 with (go_at_call 289; go_must (refine (kt _).mono ?_; rintro e w3 ⟨rfl, e3⟩; rw [e3]; clear e3))
    obtain ⟨w5, hw5⟩ : ∃ w5, w2.setCell ⟨b3, 3, none⟩ (.complex .f64 X Y) = w5 := ⟨_, rfl⟩
    rw [hw5] at H6
    try rw [hw5]
    clear hw5 H4 p0 p1 p2 p3 o0 o1 o2 o3 r0 r1 r2 r3 x0 x1 x2 x3 c4
    have H6 : St (fun _ => False) w w5 [Blk b3 #[.int .i64 1, .int .i64 0, .slice none 0 0, .complex .f64 X Y] 66, Blk b2 #[.int .i64 0, .int .i64 0, .slice none 0 0, .complex .f64 0 0] 66, _] := H6
    have p0 := H6.free 0 0 rfl
    have p1 := H6.free 0 1 rfl
    have p2 := H6.free 0 2 rfl
    have p3 := H6.free 0 3 rfl
    have o0 := H6.cell 0 0 rfl rfl
    have o1 := H6.cell 0 1 rfl rfl
    have o2 := H6.cell 0 2 rfl rfl
    have o3 := H6.cell 0 3 rfl rfl
    have r0 := H6.free 1 0 rfl
    have r1 := H6.free 1 1 rfl
    have r2 := H6.free 1 2 rfl
    have r3 := H6.free 1 3 rfl
    have x0 := H6.cell 1 0 rfl rfl
    have x1 := H6.cell 1 1 rfl rfl
    have x2 := H6.cell 1 2 rfl rfl
    have x3 := H6.cell 1 3 rfl rfl
    have HR := (((H6.set 1 rfl 0 (.int .i64 1)).set 1 rfl 1 (.int .i64 0)).set 1 rfl 2 (.slice none 0 0)).set 1 rfl 3 (.complex .f64 X Y)
    go_wp2
    try simp only [Exit.inBlock, Exit.then]
    refine bodyPost_ret (results_ag rfl rfl (blk_ag (cs := [.int .i64 1, .int .i64 0, .slice none 0 0, .complex .f64 X Y]) (HR.blk 1 rfl)) Tryz.underlying66 rfl (by kernel_rfl)) rfl ?_
    rw [hf.out]
    refine ⟨.slice none 0 0, ?_, ((HR.row_nil 3 1).pick [0])⟩
    rw [agV, agC, hXh.out, hYh.out]
  case inr.inr.inr =>
    have hf := Lib.hid (show singleM ⟨kd, sz, sl, lt, ag, kk⟩ v = ⟨1, 0, [], 0, 0⟩ by rw [hf0, if_neg h, if_neg h6, if_neg h7])
    have y2 : (ag == 2) = false := by simp; omega
    have y3 : (ag == 3) = false := by simp; omega
    have y4 : (ag == 4) = false := by simp; omega
    have y5 : (ag == 5) = false := by simp; omega
    have y6 : (ag == 6) = false := by simp; omega
    have y7 : (ag == 7) = false := by simp; omega
    have HR := (((H4.set 1 rfl 0 (.int .i64 1)).set 1 rfl 1 (.int .i64 0)).set 1 rfl 2 (.slice none 0 0)).set 1 rfl 3 (.complex .f64 0 0)
    clear hf0 h h6 h7
    go_wp2
    try simp only [Exit.inBlock, Exit.then]
    refine bodyPost_ret (results_ag rfl rfl (blk_ag (cs := [.int .i64 1, .int .i64 0, .slice none 0 0, .complex .f64 0 0]) (HR.blk 1 rfl)) Tryz.underlying66 rfl (by kernel_rfl)) rfl ?_
    rw [hf.out]
    refine ⟨.slice none 0 0, ?_, ((HR.row_nil 3 1).pick [0])⟩
    rw [agV, agC, e0]

end Go.Proofs.YtiglgfonhdfpmaaGreat

/- The walk of the aggregates' copied. -/
set_option linter.unusedVariables false
set_option linter.unusedSimpArgs false
namespace Go.Proofs.YtiglgfonhdfpmaaGreat
open Go.RowKit

set_option maxHeartbeats 1000000 in
set_option maxRecDepth 100000 in
theorem agg_copied (g : Ag) {hv : Value} (w : World) (hr : IntsRO w hv g.top) (hl : g.top.length ≤ 1073741824) :
    Calls Tryz.prog 283 #[agV g hv] w fun e w' => ∃ h, e = .returned (agV g h) ∧ St (fun _ => False) w w' [Row 3 1 h g.top.length (intCells g.top)] := by
  have hr0 := hr
  obtain ⟨ad, cap, rfl, -⟩ := hr
  obtain ⟨n, a, tp, x, y⟩ := g
  simp only at hr0 hl
  unfold agV agC
  simp only
  obtain ⟨X, hX⟩ : ∃ X, ib x = X := ⟨_, rfl⟩
  obtain ⟨Y, hY⟩ : ∃ Y, ib y = Y := ⟨_, rfl⟩
  rw [hX, hY]
  clear hX hY
  obtain ⟨b, hb⟩ : ∃ g, w.heap.size = g := ⟨_, rfl⟩
  obtain ⟨b2, hb2⟩ : ∃ b2, b + 1 = b2 := ⟨_, rfl⟩
  have H0 : St (fun _ => False) w _ [_] := (St.nil _ w).allocAt hb #[.int .i64 n, .int .i64 a, .slice ad tp.length cap, .complex .f64 X Y] 66
  have H := H0.allocAt (B := b2) (by rw [← hb2, ← hb]; exact Array.size_push _) agZ 66
  obtain ⟨w1, hw1⟩ : ∃ w1, (w.alloc (.cells #[.int .i64 n, .int .i64 a, .slice ad tp.length cap, .complex .f64 X Y] 66)).alloc (.cells agZ 66) = w1 := ⟨_, rfl⟩
  rw [hw1] at H
  unfold agZ at *
  have kc := ints_clone (hr0.later H.kept) hl
  go_enter Tryz.func283, Tryz.ntmps283
  go_upto_region 1 with (fail)
  try simp only [hb, hb2]
  try rw [hw1]
  clear hw1 hb hb2 H0
  have d2 := H.cell 1 2 rfl rfl
  go_upto_region 2 with (go_at_call 82; go_must (refine kc.mono ?_; rintro e w2 ⟨v2, rfl, H1⟩; have H2 : St (fun _ => False) w w2 [Row 3 1 v2 tp.length (intCells tp), Blk b2 #[.int .i64 0, .int .i64 0, .slice none 0 0, .complex .f64 0 0] 66, Blk b #[.int .i64 n, .int .i64 a, .slice ad tp.length cap, .complex .f64 X Y] 66] := H.call0 H1; clear d2; obtain ⟨a2, c2, rfl, -, -⟩ := slice_form' (H2.row 0 rfl); have p2 := H2.free 2 2 rfl; have o2 := H2.cell 2 2 rfl rfl))
  have H3 := H2.set 2 rfl 2 (.slice a2 tp.length c2)
  obtain ⟨w3, hw3⟩ : ∃ w3, w2.setCell ⟨b, 2, none⟩ (.slice a2 tp.length c2) = w3 := ⟨_, rfl⟩
  rw [hw3] at H3
  try rw [hw3]
  clear hw3 H2 H1 p2 o2 kc H
  have H3 : St (fun _ => False) w w3 [Row 3 1 (.slice a2 tp.length c2) tp.length (intCells tp), Blk b2 #[.int .i64 0, .int .i64 0, .slice none 0 0, .complex .f64 0 0] 66, Blk b #[.int .i64 n, .int .i64 a, .slice a2 tp.length c2, .complex .f64 X Y] 66] := H3
  have o0 := H3.cell 2 0 rfl rfl
  have o1 := H3.cell 2 1 rfl rfl
  have o2 := H3.cell 2 2 rfl rfl
  have o3 := H3.cell 2 3 rfl rfl
  have r0 := H3.free 1 0 rfl
  have r1 := H3.free 1 1 rfl
  have r2 := H3.free 1 2 rfl
  have r3 := H3.free 1 3 rfl
  have x0 := H3.cell 1 0 rfl rfl
  have x1 := H3.cell 1 1 rfl rfl
  have x2 := H3.cell 1 2 rfl rfl
  have x3 := H3.cell 1 3 rfl rfl
  have HR := (((H3.set 1 rfl 0 (.int .i64 n)).set 1 rfl 1 (.int .i64 a)).set 1 rfl 2 (.slice a2 tp.length c2)).set 1 rfl 3 (.complex .f64 X Y)
  go_wp2
  try simp only [Exit.inBlock, Exit.then]
  refine bodyPost_ret (results_ag rfl rfl (blk_ag (cs := [.int .i64 n, .int .i64 a, .slice a2 tp.length c2, .complex .f64 X Y]) (HR.blk 1 rfl)) Tryz.underlying66 rfl (by kernel_rfl)) rfl ?_
  exact ⟨.slice a2 tp.length c2, rfl, HR.pick [0]⟩

end Go.Proofs.YtiglgfonhdfpmaaGreat

/- The walk of the aggregates' Value. Condition: what is known is right. -/
set_option linter.unusedVariables false
set_option linter.unusedSimpArgs false
namespace Go.Proofs.YtiglgfonhdfpmaaGreat
open Go.RowKit

/-- What right says of the numbers. -/
theorem right_nums {q : Qry} {g : Ag} (h : g.right q = true) : (1 ≤ q.agg ∧ q.agg ≤ 7) ∧ (0 ≤ g.n ∧ g.n ≤ 1073741824) ∧ g.a.natAbs ≤ 4398046511104 ∧ g.top.length ≤ 8 ∧ partB g.x = true ∧ partB g.y = true ∧ g.x.natAbs ≤ 1073741824 ∧ g.y.natAbs ≤ 1073741824 := by
  obtain ⟨h1, h2, h3, h4, h5, h6, h7, h8, h9⟩ := Ag.right_iff.1 h
  have hq : (1 ≤ q.agg ∧ q.agg ≤ 7) ∧ q.kB = true := by
    unfold Qry.right at h1
    simp only [Bool.and_eq_true, decide_eq_true_eq] at h1
    exact ⟨h1.1.2, h1.2⟩
  have hx := partB_iff.1 h7
  have hy := partB_iff.1 h8
  refine ⟨hq.1, ⟨h2, h3⟩, ?_, ?_, h7, h8, by omega, by omega⟩
  · unfold numB at h4
    split at h4
    · simp only [Bool.and_eq_true, decide_eq_true_eq] at h4; omega
    · split at h4
      · have := valB_iff.1 h4; omega
      · simp only [decide_eq_true_eq] at h4; omega
  · rcases topB_iff.1 h5 with ⟨h6, hl, -⟩ | ⟨-, h0⟩
    · have hk := hq.2
      unfold Qry.kB at hk
      rw [if_pos h6] at hk
      simp only [Bool.and_eq_true, decide_eq_true_eq] at hk
      omega
    · rw [h0]; simp
set_option maxHeartbeats 4000000 in
set_option maxRecDepth 100000 in
theorem agg_val (q : Qry) (g : Ag) {hv : Value} (w : World) (hr : IntsRO w hv g.top) (hg : g.right q = true) :
    Calls Tryz.prog 31 #[qyV q, agV g hv] w fun e w' => ∃ v', e = .returned v' ∧ St (fun _ => False) w w' [Row 3 1 v' (valueM q g).length (intCells (valueM q g))] := by
  obtain ⟨⟨a1, a7⟩, ⟨n0, nm⟩, ha, htl, px, py, hx, hy⟩ := right_nums hg
  have kr := fun w' (h : IntsRO w' hv g.top) => agg_right q g w' h (by omega) (by omega) (by omega)
  have kp := fun w' => gauss_parts (x := g.x) (y := g.y) (by omega) (by omega) w'
  have hpm : partsM g.x g.y = (g.x, g.y) := by unfold partsM; rw [if_pos ⟨px, py⟩]
  rw [hpm] at kp
  rw [hg] at kr
  have kc := fun w' (h : IntsRO w' hv g.top) => ints_clone h (by omega)
  have kf := fun (h : ¬ g.n = 0) w' => agg_floor (a := g.a) (n := g.n) ha ⟨by omega, by omega⟩ w'
  have hr0 := hr
  obtain ⟨ad, cap, rfl, -⟩ := hr
  have hf0 : valueM q g = if g.n = 0 then [] else if q.agg = 1 then [g.n] else if q.agg = 5 then [floorM g.a g.n] else if q.agg = 6 then g.top else if q.agg = 7 then [g.x, g.y] else [g.a] := rfl
  obtain ⟨F, hF⟩ : ∃ F, floorM g.a g.n = F := ⟨_, rfl⟩
  rw [hF] at hf0
  simp only [hF] at kf
  clear hF hg hpm px py ha htl
  obtain ⟨V, hV⟩ : ∃ V, valueM q g = V := ⟨_, rfl⟩
  rw [hV] at hf0 ⊢
  clear hV
  obtain ⟨kd, sz, sl, lt, ag, kk⟩ := q
  obtain ⟨n, a, tp, x, y⟩ := g
  simp only at *
  unfold qyV agV qyC agC at *
  simp only at *
  obtain ⟨X, hX⟩ : ∃ X, ib x = X := ⟨_, rfl⟩
  obtain ⟨Y, hY⟩ : ∃ Y, ib y = Y := ⟨_, rfl⟩
  simp only [hX, hY] at kr kp ⊢
  clear hX hY
  obtain ⟨b, hb⟩ : ∃ g, w.heap.size = g := ⟨_, rfl⟩
  obtain ⟨b2, hb2⟩ : ∃ b2, b + 1 = b2 := ⟨_, rfl⟩
  have H0 : St (fun _ => False) w _ [_] := (St.nil _ w).allocAt hb #[.int .i64 kd, .int .i64 sz, .int .i64 sl, .int .i64 lt, .int .i64 ag, .int .i64 kk] 23
  have H := H0.allocAt (B := b2) (by rw [← hb2, ← hb]; exact Array.size_push _) #[.int .i64 n, .int .i64 a, .slice ad tp.length cap, .complex .f64 X Y] 66
  obtain ⟨w1, hw1⟩ : ∃ w1, (w.alloc (.cells #[.int .i64 kd, .int .i64 sz, .int .i64 sl, .int .i64 lt, .int .i64 ag, .int .i64 kk] 23)).alloc (.cells #[.int .i64 n, .int .i64 a, .slice ad tp.length cap, .complex .f64 X Y] 66) = w1 := ⟨_, rfl⟩
  rw [hw1] at H
  go_enter Tryz.func31, Tryz.ntmps31
  go_upto_region 1 with (fail)
  try simp only [hb, hb2]
  try rw [hw1]
  clear hw1 hb hb2 H0
  have c0 := H.cell 1 0 rfl rfl
  have c1 := H.cell 1 1 rfl rfl
  have c2 := H.cell 1 2 rfl rfl
  have c3 := H.cell 1 3 rfl rfl
  have c4 := H.cell 1 4 rfl rfl
  have c5 := H.cell 1 5 rfl rfl
  have d0 := H.cell 0 0 rfl rfl
  have d1 := H.cell 0 1 rfl rfl
  have d2 := H.cell 0 2 rfl rfl
  have d3 := H.cell 0 3 rfl rfl
  by_cases hn : n = 0
  · have y0 : (n == 0) = true := by simpa using hn
    have hf := Lib.hid (show V = [] by rw [hf0, if_pos hn])
    clear hf0 hn kf
    go_wp2_with (go_at_call 80; go_must (with_reducible refine (St.callPast (kr _ (hr0.later H.kept)) H).mono ?_; clear c0 c1 c2 c3 c4 c5 d0 d1 d2 d3 H; rintro e w2 ⟨rfl, H⟩; have d0 := H.cell 0 0 rfl rfl))
    go_ret
    rw [hf.out]
    exact ⟨_, rfl, (H.row_nil 3 1).pick [0]⟩
  have y0 : (n == 0) = false := by simpa using hn
  rw [if_neg hn] at hf0
  have kf := kf hn
  clear hn
  go_upto_region 3 with (go_at_call 80; go_must (with_reducible refine (St.callPast (kr _ (hr0.later H.kept)) H).mono ?_; clear c0 c1 c2 c3 c4 c5 d0 d1 d2 d3 H; rintro e w2 ⟨rfl, H⟩; have d0 := H.cell 0 0 rfl rfl))
  clear kr
  have kc := kc _ (hr0.later H.kept)
  have c4 := H.cell 1 4 rfl rfl
  have d1 := H.cell 0 1 rfl rfl
  have d2 := H.cell 0 2 rfl rfl
  have d3 := H.cell 0 3 rfl rfl
  obtain ⟨b4, hb4⟩ : ∃ g, w2.heap.size = g := ⟨_, rfl⟩
  have hone : ∀ (z : Int), ∃ v', Value.slice (some ⟨b4, 0, none⟩) 1 1 = v' ∧ St (fun _ => False) w (w2.alloc (.cells #[.int .i64 z] 3)) [Row 3 1 v' [z].length (intCells [z])] := fun z =>
    ⟨_, rfl, ((H.allocAt hb4 #[.int .i64 z] 3).blk_row 0 (e := 3) (size := 1) (cap := 1) (n := 1) (cs := [.int .i64 z]) (xs := intCells [z]) rfl (Nat.le_refl _) (by decide) rfl rfl).pick [0]⟩
  have htwo : ∀ (z z2 : Int), ∃ v', Value.slice (some ⟨b4, 0, none⟩) 2 2 = v' ∧ St (fun _ => False) w (w2.alloc (.cells #[.int .i64 z, .int .i64 z2] 3)) [Row 3 1 v' [z, z2].length (intCells [z, z2])] := fun z z2 =>
    ⟨_, rfl, ((H.allocAt hb4 #[.int .i64 z, .int .i64 z2] 3).blk_row 0 (e := 3) (size := 1) (cap := 2) (n := 2) (cs := [.int .i64 z, .int .i64 z2]) (xs := intCells [z, z2]) rfl (Nat.le_refl _) (by decide) rfl rfl).pick [0]⟩
  have hone := Lib.hid hone
  have htwo := Lib.hid htwo
  have hk : ag = 1 ∨ ag = 5 ∨ ag = 6 ∨ ag = 7 ∨ ag = 2 ∨ ag = 3 ∨ ag = 4 := by omega
  clear a1 a7
  rcases hk with rfl | rfl | rfl | rfl | rfl | rfl | rfl
  case inl =>
    have hf := Lib.hid (show V = [n] by rw [hf0]; simp)
    clear hf0 kc
    go_wp2
    go_ret
    rw [hf.out]
    obtain ⟨v', e, h⟩ := hone.out n
    exact ⟨v', by rw [← e]; rfl, h⟩
  case inr.inl =>
    have hf := Lib.hid (show V = [F] by rw [hf0]; simp)
    clear hf0 kc
    go_wp2_with (go_at_call 81; go_must (refine (kf _).mono ?_; rintro e w3 ⟨rfl, e3⟩; rw [e3]; clear e3))
    go_ret
    rw [hf.out]
    obtain ⟨v', e, h⟩ := hone.out F
    exact ⟨v', by rw [← e]; rfl, h⟩
  case inr.inr.inl =>
    have hf := Lib.hid (show V = tp by rw [hf0]; simp)
    clear hf0
    go_wp2_with (go_at_call 82; go_must (refine kc.mono ?_; rintro e w3 ⟨v3, rfl, H1⟩))
    go_ret
    rw [hf.out]
    exact ⟨_, rfl, (H.call0 H1).pick [0]⟩
  case inr.inr.inr.inl =>
    have hf := Lib.hid (show V = [x, y] by rw [hf0]; simp)
    clear hf0 kc
    go_wp2_with (go_at_call 83; go_must (refine (kp _).mono ?_; rintro e w3 ⟨rfl, e3⟩; rw [e3]; clear e3))
    go_ret
    rw [hf.out]
    obtain ⟨v', e, h⟩ := htwo.out x y
    exact ⟨v', by rw [← e]; rfl, h⟩
  all_goals
    have hf := Lib.hid (show V = [a] by rw [hf0]; simp)
    clear hf0 kc
    go_wp2
    go_ret
    rw [hf.out]
    obtain ⟨v', e, h⟩ := hone.out a
    exact ⟨v', by rw [← e]; rfl, h⟩

end Go.Proofs.YtiglgfonhdfpmaaGreat
