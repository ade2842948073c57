import Derived.Test.YtiglgfonhdfpmaaGreatOs1
import Derived.Test.YtiglgfonhdfpmaaGreatOs2
import Derived.Test.YtiglgfonhdfpmaaGreatOs3
import Derived.Test.YtiglgfonhdfpmaaGreatOs4
import Derived.Deep.CutBlock
import Derived.Lib.ItoaNum
import Derived.Lib.AtoiAll
import Derived.Lib.Split
import Derived.Lib.SplitLaws
import Derived.Lib.IndexLaws
import Derived.Lib.CountLaws
import Derived.Lib.AppendZeros
import Derived.Deep.DeepAppendWide
/- The walk of the aggregates' Right. -/
set_option linter.unusedVariables false
set_option linter.unusedSimpArgs false
namespace Go.Proofs.YtiglgfonhdfpmaaGreat
open Go.RowKit

set_option maxHeartbeats 8000000 in
set_option maxRecDepth 100000 in
theorem agg_right (q : Qry) (g : Ag) {hv : Value} (w : World) (hr : IntsRO w hv g.top) (hl : g.top.length ≤ 9223372036854775807) (hx : g.x.natAbs < 2 ^ 53) (hy : g.y.natAbs < 2 ^ 53) : Calls Tryz.prog 80 #[qyV q, agV g hv] w fun e w' => e = .returned (.bool (g.right q)) ∧ Below w.heap.size w w' := by
  have k1 := fun w' => query_right q w'
  have k4 := fun w' => agg_number q g hv w'
  have k5 := fun w' (h : IntsRO w' hv g.top) => agg_top q g w' h hl
  have k6 := fun w' => gauss_right hx hy w'
  have ex : (FloatKind.f64.format.order (ib g.x) (ib 0) == some Ordering.eq) = decide (g.x = 0) := by
    rw [Bool.eq_iff_iff, beq_iff_eq, decide_eq_true_eq]
    exact eq_ib hx (by decide)
  have ey : (FloatKind.f64.format.order (ib g.y) (ib 0) == some Ordering.eq) = decide (g.y = 0) := by
    rw [Bool.eq_iff_iff, beq_iff_eq, decide_eq_true_eq]
    exact eq_ib hy (by decide)
  rw [ib_zero] at ex ey
  have hr0 := hr
  obtain ⟨ad, cap, rfl, -⟩ := hr
  have hf0 : g.right q = (q.right && decide (0 ≤ g.n) && decide (g.n ≤ 1073741824) && numB q g.a && topB q g.n g.top && (decide (q.agg = 7) || (decide (g.x = 0) && decide (g.y = 0))) && (partB g.x && partB g.y) && (decide (0 < g.n) || (decide (g.a = 0) && (decide (g.x = 0) && decide (g.y = 0))))) := by
    unfold Ag.right
    simp only [Bool.decide_and, Bool.and_assoc]
  obtain ⟨b1, e1⟩ : ∃ b, q.right = b := ⟨_, rfl⟩
  obtain ⟨b4, e4⟩ : ∃ b, numB q g.a = b := ⟨_, rfl⟩
  obtain ⟨b5, e5⟩ : ∃ b, topB q g.n g.top = b := ⟨_, rfl⟩
  obtain ⟨b6, e6⟩ : ∃ b, (partB g.x && partB g.y) = b := ⟨_, rfl⟩
  rw [e1] at k1
  rw [e4] at k4
  rw [e5] at k5
  rw [e6] at k6
  rw [e1, e4, e5, e6] at hf0
  obtain ⟨bx, hbx⟩ : ∃ b, decide (g.x = 0) = b := ⟨_, rfl⟩
  obtain ⟨by', hby⟩ : ∃ b, decide (g.y = 0) = b := ⟨_, rfl⟩
  rw [hbx] at ex
  rw [hby] at ey
  rw [hbx, hby] at hf0
  clear e1 e4 e5 e6 hbx hby hx hy
  obtain ⟨R, hR⟩ : ∃ R, g.right q = R := ⟨_, rfl⟩
  rw [hR] at hf0 ⊢
  clear hR
  obtain ⟨kd, sz, sl, lt, ag, kk⟩ := q
  obtain ⟨n, a, tp, x, y⟩ := g
  simp only at *
  unfold qyV agV qyC agC at *
  simp only at *
  obtain ⟨X, hX⟩ : ∃ X, ib x = X := ⟨_, rfl⟩
  obtain ⟨Y, hY⟩ : ∃ Y, ib y = Y := ⟨_, rfl⟩
  simp only [hX, hY] at k4 k5 k6 ex ey ⊢
  clear hX hY
  obtain ⟨b, hb⟩ : ∃ g, w.heap.size = g := ⟨_, rfl⟩
  obtain ⟨b2, hb2⟩ : ∃ b2, b + 1 = b2 := ⟨_, rfl⟩
  have H0 : St (fun _ => False) w _ [_] := (St.nil _ w).allocAt hb #[.int .i64 kd, .int .i64 sz, .int .i64 sl, .int .i64 lt, .int .i64 ag, .int .i64 kk] 23
  have H := H0.allocAt (B := b2) (by rw [← hb2, ← hb]; exact Array.size_push _) #[.int .i64 n, .int .i64 a, .slice ad tp.length cap, .complex .f64 X Y] 66
  obtain ⟨w1, hw1⟩ : ∃ w1, (w.alloc (.cells #[.int .i64 kd, .int .i64 sz, .int .i64 sl, .int .i64 lt, .int .i64 ag, .int .i64 kk] 23)).alloc (.cells #[.int .i64 n, .int .i64 a, .slice ad tp.length cap, .complex .f64 X Y] 66) = w1 := ⟨_, rfl⟩
  rw [hw1] at H
  go_enter Tryz.func80, Tryz.ntmps80
  go_upto_region 1 with (fail)
  try simp only [hb, hb2]
  try rw [hw1]
  clear hw1 hb hb2 H0
  have c0 := H.cell 1 0 rfl rfl
  have c1 := H.cell 1 1 rfl rfl
  have c2 := H.cell 1 2 rfl rfl
  have c3 := H.cell 1 3 rfl rfl
  have c4 := H.cell 1 4 rfl rfl
  have c5 := H.cell 1 5 rfl rfl
  have d0 := H.cell 0 0 rfl rfl
  have d1 := H.cell 0 1 rfl rfl
  have d2 := H.cell 0 2 rfl rfl
  have d3 := H.cell 0 3 rfl rfl
  have hf := Lib.hid hf0
  clear hf0
  have hk : b1 = false ∨ (b1 = true ∧ n < 0) ∨ (b1 = true ∧ ¬ n < 0 ∧ 1073741824 < n) ∨ (b1 = true ∧ ¬ n < 0 ∧ ¬ 1073741824 < n ∧ b4 = false) ∨ (b1 = true ∧ ¬ n < 0 ∧ ¬ 1073741824 < n ∧ b4 = true ∧ b5 = false) ∨ (b1 = true ∧ ¬ n < 0 ∧ ¬ 1073741824 < n ∧ b4 = true ∧ b5 = true) := by
    cases b1 <;> cases b4 <;> cases b5 <;> simp <;> omega
  have q7 := Lib.hid (show (ag == 7) = decide (ag = 7) by rw [Bool.eq_iff_iff]; simp)
  have q8 := Lib.hid (show (ag != 7) = !decide (ag = 7) by rw [Bool.eq_iff_iff]; simp)
  have q9 := Lib.hid (show (a == 0) = decide (a = 0) by rw [Bool.eq_iff_iff]; simp)
  have hk2 : (¬ ag = 7 ∧ bx = false) ∨ (¬ ag = 7 ∧ bx = true ∧ by' = false) ∨ (¬ ag = 7 ∧ bx = true ∧ by' = true ∧ b6 = false) ∨ (ag = 7 ∧ b6 = false) ∨ (¬ ag = 7 ∧ bx = true ∧ by' = true ∧ b6 = true ∧ 0 < n) ∨ (ag = 7 ∧ b6 = true ∧ 0 < n) ∨ (¬ ag = 7 ∧ bx = true ∧ by' = true ∧ b6 = true ∧ ¬ 0 < n ∧ a = 0) ∨ (¬ ag = 7 ∧ bx = true ∧ by' = true ∧ b6 = true ∧ ¬ 0 < n ∧ ¬ a = 0) ∨ (ag = 7 ∧ b6 = true ∧ ¬ 0 < n ∧ ¬ a = 0) ∨ (ag = 7 ∧ b6 = true ∧ ¬ 0 < n ∧ a = 0 ∧ bx = false) ∨ (ag = 7 ∧ b6 = true ∧ ¬ 0 < n ∧ a = 0 ∧ bx = true) := by
    cases bx <;> cases by' <;> cases b6 <;> simp <;> omega
  have hk2 := Lib.hid hk2
  rcases hk with rfl | ⟨rfl, h1⟩ | ⟨rfl, h1, h2⟩ | ⟨rfl, h1, h2, rfl⟩ | ⟨rfl, h1, h2, rfl, rfl⟩ | ⟨rfl, h1, h2, rfl, rfl⟩
  case inl =>
    have hR := Lib.hid (show R = false by rw [hf.out]; simp)
    clear hf hk2 q7 q8 q9 ex ey
    go_wp2_with (first
      | (go_at_call 60; go_must (with_reducible refine (St.callPast (k1 _) H).mono ?_; clear c0 c1 c2 c3 c4 c5 d0 d1 d2 d3 H; rintro e w2 ⟨rfl, H⟩; have c0 := H.cell 1 0 rfl rfl; have c1 := H.cell 1 1 rfl rfl; have c2 := H.cell 1 2 rfl rfl; have c3 := H.cell 1 3 rfl rfl; have c4 := H.cell 1 4 rfl rfl; have c5 := H.cell 1 5 rfl rfl; have d0 := H.cell 0 0 rfl rfl; have d1 := H.cell 0 1 rfl rfl; have d2 := H.cell 0 2 rfl rfl; have d3 := H.cell 0 3 rfl rfl))
      | (go_at_call 148; go_must (with_reducible refine (St.callPast (k4 _) H).mono ?_; clear c0 c1 c2 c3 c4 c5 d0 d1 d2 d3 H; rintro e w2 ⟨rfl, H⟩; have c0 := H.cell 1 0 rfl rfl; have c1 := H.cell 1 1 rfl rfl; have c2 := H.cell 1 2 rfl rfl; have c3 := H.cell 1 3 rfl rfl; have c4 := H.cell 1 4 rfl rfl; have c5 := H.cell 1 5 rfl rfl; have d0 := H.cell 0 0 rfl rfl; have d1 := H.cell 0 1 rfl rfl; have d2 := H.cell 0 2 rfl rfl; have d3 := H.cell 0 3 rfl rfl))
      | (go_at_call 149; go_must (with_reducible refine (St.callPast (k5 _ (hr0.later H.kept)) H).mono ?_; clear c0 c1 c2 c3 c4 c5 d0 d1 d2 d3 H; rintro e w2 ⟨rfl, H⟩; have c0 := H.cell 1 0 rfl rfl; have c1 := H.cell 1 1 rfl rfl; have c2 := H.cell 1 2 rfl rfl; have c3 := H.cell 1 3 rfl rfl; have c4 := H.cell 1 4 rfl rfl; have c5 := H.cell 1 5 rfl rfl; have d0 := H.cell 0 0 rfl rfl; have d1 := H.cell 0 1 rfl rfl; have d2 := H.cell 0 2 rfl rfl; have d3 := H.cell 0 3 rfl rfl))
      | (go_at_call 150; go_must (with_reducible refine (k6 _).mono ?_; rintro e w2 ⟨rfl, rfl⟩)))
    go_ret
    rw [hR.out]
    exact ⟨rfl, H.below (Nat.le_refl _) (fun _ h => h.elim)⟩
  case inr.inl =>
    have hR := Lib.hid (show R = false by rw [hf.out]; simp [show ¬ 0 ≤ n by omega])
    have z1 : decide (n < 0) = true := by simpa using h1
    clear hf hk2 q7 q8 q9 ex ey
    go_wp2_with (first
      | (go_at_call 60; go_must (with_reducible refine (St.callPast (k1 _) H).mono ?_; clear c0 c1 c2 c3 c4 c5 d0 d1 d2 d3 H; rintro e w2 ⟨rfl, H⟩; have c0 := H.cell 1 0 rfl rfl; have c1 := H.cell 1 1 rfl rfl; have c2 := H.cell 1 2 rfl rfl; have c3 := H.cell 1 3 rfl rfl; have c4 := H.cell 1 4 rfl rfl; have c5 := H.cell 1 5 rfl rfl; have d0 := H.cell 0 0 rfl rfl; have d1 := H.cell 0 1 rfl rfl; have d2 := H.cell 0 2 rfl rfl; have d3 := H.cell 0 3 rfl rfl))
      | (go_at_call 148; go_must (with_reducible refine (St.callPast (k4 _) H).mono ?_; clear c0 c1 c2 c3 c4 c5 d0 d1 d2 d3 H; rintro e w2 ⟨rfl, H⟩; have c0 := H.cell 1 0 rfl rfl; have c1 := H.cell 1 1 rfl rfl; have c2 := H.cell 1 2 rfl rfl; have c3 := H.cell 1 3 rfl rfl; have c4 := H.cell 1 4 rfl rfl; have c5 := H.cell 1 5 rfl rfl; have d0 := H.cell 0 0 rfl rfl; have d1 := H.cell 0 1 rfl rfl; have d2 := H.cell 0 2 rfl rfl; have d3 := H.cell 0 3 rfl rfl))
      | (go_at_call 149; go_must (with_reducible refine (St.callPast (k5 _ (hr0.later H.kept)) H).mono ?_; clear c0 c1 c2 c3 c4 c5 d0 d1 d2 d3 H; rintro e w2 ⟨rfl, H⟩; have c0 := H.cell 1 0 rfl rfl; have c1 := H.cell 1 1 rfl rfl; have c2 := H.cell 1 2 rfl rfl; have c3 := H.cell 1 3 rfl rfl; have c4 := H.cell 1 4 rfl rfl; have c5 := H.cell 1 5 rfl rfl; have d0 := H.cell 0 0 rfl rfl; have d1 := H.cell 0 1 rfl rfl; have d2 := H.cell 0 2 rfl rfl; have d3 := H.cell 0 3 rfl rfl))
      | (go_at_call 150; go_must (with_reducible refine (k6 _).mono ?_; rintro e w2 ⟨rfl, rfl⟩)))
    go_ret
    rw [hR.out]
    exact ⟨rfl, H.below (Nat.le_refl _) (fun _ h => h.elim)⟩
  case inr.inr.inl =>
    have hR := Lib.hid (show R = false by rw [hf.out]; simp [show ¬ n ≤ 1073741824 by omega])
    have z1 : decide (n < 0) = false := (by simpa using h1)
    have z2 : decide (1073741824 < n) = true := (by simpa using h2)
    clear h1 h2
    clear hf hk2 q7 q8 q9 ex ey
    go_wp2_with (first
      | (go_at_call 60; go_must (with_reducible refine (St.callPast (k1 _) H).mono ?_; clear c0 c1 c2 c3 c4 c5 d0 d1 d2 d3 H; rintro e w2 ⟨rfl, H⟩; have c0 := H.cell 1 0 rfl rfl; have c1 := H.cell 1 1 rfl rfl; have c2 := H.cell 1 2 rfl rfl; have c3 := H.cell 1 3 rfl rfl; have c4 := H.cell 1 4 rfl rfl; have c5 := H.cell 1 5 rfl rfl; have d0 := H.cell 0 0 rfl rfl; have d1 := H.cell 0 1 rfl rfl; have d2 := H.cell 0 2 rfl rfl; have d3 := H.cell 0 3 rfl rfl))
      | (go_at_call 148; go_must (with_reducible refine (St.callPast (k4 _) H).mono ?_; clear c0 c1 c2 c3 c4 c5 d0 d1 d2 d3 H; rintro e w2 ⟨rfl, H⟩; have c0 := H.cell 1 0 rfl rfl; have c1 := H.cell 1 1 rfl rfl; have c2 := H.cell 1 2 rfl rfl; have c3 := H.cell 1 3 rfl rfl; have c4 := H.cell 1 4 rfl rfl; have c5 := H.cell 1 5 rfl rfl; have d0 := H.cell 0 0 rfl rfl; have d1 := H.cell 0 1 rfl rfl; have d2 := H.cell 0 2 rfl rfl; have d3 := H.cell 0 3 rfl rfl))
      | (go_at_call 149; go_must (with_reducible refine (St.callPast (k5 _ (hr0.later H.kept)) H).mono ?_; clear c0 c1 c2 c3 c4 c5 d0 d1 d2 d3 H; rintro e w2 ⟨rfl, H⟩; have c0 := H.cell 1 0 rfl rfl; have c1 := H.cell 1 1 rfl rfl; have c2 := H.cell 1 2 rfl rfl; have c3 := H.cell 1 3 rfl rfl; have c4 := H.cell 1 4 rfl rfl; have c5 := H.cell 1 5 rfl rfl; have d0 := H.cell 0 0 rfl rfl; have d1 := H.cell 0 1 rfl rfl; have d2 := H.cell 0 2 rfl rfl; have d3 := H.cell 0 3 rfl rfl))
      | (go_at_call 150; go_must (with_reducible refine (k6 _).mono ?_; rintro e w2 ⟨rfl, rfl⟩)))
    go_ret
    rw [hR.out]
    exact ⟨rfl, H.below (Nat.le_refl _) (fun _ h => h.elim)⟩
  case inr.inr.inr.inl =>
    have hR := Lib.hid (show R = false by rw [hf.out]; simp)
    have z1 : decide (n < 0) = false := (by simpa using h1)
    have z2 : decide (1073741824 < n) = false := (by simpa using h2)
    clear h1 h2
    clear hf hk2 q7 q8 q9 ex ey
    go_wp2_with (first
      | (go_at_call 60; go_must (with_reducible refine (St.callPast (k1 _) H).mono ?_; clear c0 c1 c2 c3 c4 c5 d0 d1 d2 d3 H; rintro e w2 ⟨rfl, H⟩; have c0 := H.cell 1 0 rfl rfl; have c1 := H.cell 1 1 rfl rfl; have c2 := H.cell 1 2 rfl rfl; have c3 := H.cell 1 3 rfl rfl; have c4 := H.cell 1 4 rfl rfl; have c5 := H.cell 1 5 rfl rfl; have d0 := H.cell 0 0 rfl rfl; have d1 := H.cell 0 1 rfl rfl; have d2 := H.cell 0 2 rfl rfl; have d3 := H.cell 0 3 rfl rfl))
      | (go_at_call 148; go_must (with_reducible refine (St.callPast (k4 _) H).mono ?_; clear c0 c1 c2 c3 c4 c5 d0 d1 d2 d3 H; rintro e w2 ⟨rfl, H⟩; have c0 := H.cell 1 0 rfl rfl; have c1 := H.cell 1 1 rfl rfl; have c2 := H.cell 1 2 rfl rfl; have c3 := H.cell 1 3 rfl rfl; have c4 := H.cell 1 4 rfl rfl; have c5 := H.cell 1 5 rfl rfl; have d0 := H.cell 0 0 rfl rfl; have d1 := H.cell 0 1 rfl rfl; have d2 := H.cell 0 2 rfl rfl; have d3 := H.cell 0 3 rfl rfl))
      | (go_at_call 149; go_must (with_reducible refine (St.callPast (k5 _ (hr0.later H.kept)) H).mono ?_; clear c0 c1 c2 c3 c4 c5 d0 d1 d2 d3 H; rintro e w2 ⟨rfl, H⟩; have c0 := H.cell 1 0 rfl rfl; have c1 := H.cell 1 1 rfl rfl; have c2 := H.cell 1 2 rfl rfl; have c3 := H.cell 1 3 rfl rfl; have c4 := H.cell 1 4 rfl rfl; have c5 := H.cell 1 5 rfl rfl; have d0 := H.cell 0 0 rfl rfl; have d1 := H.cell 0 1 rfl rfl; have d2 := H.cell 0 2 rfl rfl; have d3 := H.cell 0 3 rfl rfl))
      | (go_at_call 150; go_must (with_reducible refine (k6 _).mono ?_; rintro e w2 ⟨rfl, rfl⟩)))
    go_ret
    rw [hR.out]
    exact ⟨rfl, H.below (Nat.le_refl _) (fun _ h => h.elim)⟩
  case inr.inr.inr.inr.inl =>
    have hR := Lib.hid (show R = false by rw [hf.out]; simp)
    have z1 : decide (n < 0) = false := (by simpa using h1)
    have z2 : decide (1073741824 < n) = false := (by simpa using h2)
    clear h1 h2
    clear hf hk2 q7 q8 q9 ex ey
    go_wp2_with (first
      | (go_at_call 60; go_must (with_reducible refine (St.callPast (k1 _) H).mono ?_; clear c0 c1 c2 c3 c4 c5 d0 d1 d2 d3 H; rintro e w2 ⟨rfl, H⟩; have c0 := H.cell 1 0 rfl rfl; have c1 := H.cell 1 1 rfl rfl; have c2 := H.cell 1 2 rfl rfl; have c3 := H.cell 1 3 rfl rfl; have c4 := H.cell 1 4 rfl rfl; have c5 := H.cell 1 5 rfl rfl; have d0 := H.cell 0 0 rfl rfl; have d1 := H.cell 0 1 rfl rfl; have d2 := H.cell 0 2 rfl rfl; have d3 := H.cell 0 3 rfl rfl))
      | (go_at_call 148; go_must (with_reducible refine (St.callPast (k4 _) H).mono ?_; clear c0 c1 c2 c3 c4 c5 d0 d1 d2 d3 H; rintro e w2 ⟨rfl, H⟩; have c0 := H.cell 1 0 rfl rfl; have c1 := H.cell 1 1 rfl rfl; have c2 := H.cell 1 2 rfl rfl; have c3 := H.cell 1 3 rfl rfl; have c4 := H.cell 1 4 rfl rfl; have c5 := H.cell 1 5 rfl rfl; have d0 := H.cell 0 0 rfl rfl; have d1 := H.cell 0 1 rfl rfl; have d2 := H.cell 0 2 rfl rfl; have d3 := H.cell 0 3 rfl rfl))
      | (go_at_call 149; go_must (with_reducible refine (St.callPast (k5 _ (hr0.later H.kept)) H).mono ?_; clear c0 c1 c2 c3 c4 c5 d0 d1 d2 d3 H; rintro e w2 ⟨rfl, H⟩; have c0 := H.cell 1 0 rfl rfl; have c1 := H.cell 1 1 rfl rfl; have c2 := H.cell 1 2 rfl rfl; have c3 := H.cell 1 3 rfl rfl; have c4 := H.cell 1 4 rfl rfl; have c5 := H.cell 1 5 rfl rfl; have d0 := H.cell 0 0 rfl rfl; have d1 := H.cell 0 1 rfl rfl; have d2 := H.cell 0 2 rfl rfl; have d3 := H.cell 0 3 rfl rfl))
      | (go_at_call 150; go_must (with_reducible refine (k6 _).mono ?_; rintro e w2 ⟨rfl, rfl⟩)))
    go_ret
    rw [hR.out]
    exact ⟨rfl, H.below (Nat.le_refl _) (fun _ h => h.elim)⟩
  case inr.inr.inr.inr.inr =>
    have hR := Lib.hid (show R = ((decide (ag = 7) || (bx && by')) && b6 && (decide (0 < n) || (decide (a = 0) && (bx && by')))) by rw [hf.out]; simp [show 0 ≤ n by omega, show n ≤ 1073741824 by omega])
    have z1 : decide (n < 0) = false := (by simpa using h1)
    have z2 : decide (1073741824 < n) = false := (by simpa using h2)
    clear h1 h2
    clear hf
    rcases hk2.out with ⟨h7, rfl⟩ | ⟨h7, rfl, rfl⟩ | ⟨h7, rfl, rfl, rfl⟩ | ⟨h7, rfl⟩ | ⟨h7, rfl, rfl, rfl, hn⟩ | ⟨h7, rfl, hn⟩ | ⟨h7, rfl, rfl, rfl, hn, ha⟩ | ⟨h7, rfl, rfl, rfl, hn, ha⟩ | ⟨h7, rfl, hn, ha⟩ | ⟨h7, rfl, hn, ha, rfl⟩ | ⟨h7, rfl, hn, ha, rfl⟩
    all_goals
      first
        | (have t7 := decide_eq_true h7; have y7 : (ag == 7) = true := (by rw [q7.out, t7]); have y8 : (ag != 7) = false := (by rw [q8.out, t7]; rfl); rw [t7] at hR)
        | (have t7 := decide_eq_false h7; have y7 : (ag == 7) = false := (by rw [q7.out, t7]); have y8 : (ag != 7) = true := (by rw [q8.out, t7]; rfl); rw [t7] at hR)
    all_goals
      try first
        | (have z3 : decide (0 < n) = true := decide_eq_true hn; rw [z3] at hR)
        | (have z3 : decide (0 < n) = false := decide_eq_false hn; rw [z3] at hR)
      try first
        | (have z4 : decide (a = 0) = true := decide_eq_true ha; have z5 : (a == 0) = true := (by rw [q9.out, z4]); rw [z4] at hR)
        | (have z4 : decide (a = 0) = false := decide_eq_false ha; have z5 : (a == 0) = false := (by rw [q9.out, z4]); rw [z4] at hR)
      try clear hn
      try clear ha
      clear h7 q7 q8 q9 t7 hk2
      go_wp2_with (first
        | (go_at_call 60; go_must (with_reducible refine (St.callPast (k1 _) H).mono ?_; clear c0 c1 c2 c3 c4 c5 d0 d1 d2 d3 H; rintro e w2 ⟨rfl, H⟩; have c0 := H.cell 1 0 rfl rfl; have c1 := H.cell 1 1 rfl rfl; have c2 := H.cell 1 2 rfl rfl; have c3 := H.cell 1 3 rfl rfl; have c4 := H.cell 1 4 rfl rfl; have c5 := H.cell 1 5 rfl rfl; have d0 := H.cell 0 0 rfl rfl; have d1 := H.cell 0 1 rfl rfl; have d2 := H.cell 0 2 rfl rfl; have d3 := H.cell 0 3 rfl rfl))
        | (go_at_call 148; go_must (with_reducible refine (St.callPast (k4 _) H).mono ?_; clear c0 c1 c2 c3 c4 c5 d0 d1 d2 d3 H; rintro e w2 ⟨rfl, H⟩; have c0 := H.cell 1 0 rfl rfl; have c1 := H.cell 1 1 rfl rfl; have c2 := H.cell 1 2 rfl rfl; have c3 := H.cell 1 3 rfl rfl; have c4 := H.cell 1 4 rfl rfl; have c5 := H.cell 1 5 rfl rfl; have d0 := H.cell 0 0 rfl rfl; have d1 := H.cell 0 1 rfl rfl; have d2 := H.cell 0 2 rfl rfl; have d3 := H.cell 0 3 rfl rfl))
        | (go_at_call 149; go_must (with_reducible refine (St.callPast (k5 _ (hr0.later H.kept)) H).mono ?_; clear c0 c1 c2 c3 c4 c5 d0 d1 d2 d3 H; rintro e w2 ⟨rfl, H⟩; have c0 := H.cell 1 0 rfl rfl; have c1 := H.cell 1 1 rfl rfl; have c2 := H.cell 1 2 rfl rfl; have c3 := H.cell 1 3 rfl rfl; have c4 := H.cell 1 4 rfl rfl; have c5 := H.cell 1 5 rfl rfl; have d0 := H.cell 0 0 rfl rfl; have d1 := H.cell 0 1 rfl rfl; have d2 := H.cell 0 2 rfl rfl; have d3 := H.cell 0 3 rfl rfl))
        | (go_at_call 150; go_must (with_reducible refine (k6 _).mono ?_; rintro e w2 ⟨rfl, rfl⟩)))
      go_ret
      rw [hR.out]
      exact ⟨ret_bool (by simp), H.below (Nat.le_refl _) (fun _ h => h.elim)⟩

end Go.Proofs.YtiglgfonhdfpmaaGreat

/- The walks of the aggregates' joined, floor, single, copied; slices.Clone at ints. -/
set_option linter.unusedVariables false
set_option linter.unusedSimpArgs false
namespace Go.Proofs.YtiglgfonhdfpmaaGreat
open Go.RowKit

theorem one_ints (l : List Int) : ∀ u ∈ intCells l, u.oneCell' = true := by
  intro u hu
  obtain ⟨x, -, rfl⟩ := List.mem_map.1 hu
  rfl
set_option maxHeartbeats 1000000 in
set_option maxRecDepth 100000 in
theorem ints_clone {v : Value} {l : List Int} {w : World} (hv : IntsRO w v l) (hl : l.length ≤ 1073741824) :
    Calls Tryz.prog 82 #[v] w fun e w' => ∃ v', e = .returned v' ∧ St (fun _ => False) w w' [Row 3 1 v' l.length (intCells l)] := by
  obtain ⟨ad, cap, rfl, hcap, hint, hcell⟩ := hv
  cases ad with
  | none =>
    obtain rfl : l = [] := by
      by_cases h : l = []
      · exact h
      · obtain ⟨b, o, e, _⟩ := hcell h
        cases e
    have hq := fun w => Lib.run_eql_slice_nil (P := Tryz.prog) w 33 3 none 0 cap 0 0 Tryz.underlying33
    go_enter Tryz.func82, Tryz.ntmps82
    go_wp2
    go_ret
    exact ⟨_, rfl, (St.nil _ w).row_nil 3 1⟩
  | some a =>
    have hnew : St (fun _ => False) w (w.alloc (.cells #[] 3)) [Row 3 1 (.slice (some ⟨w.heap.size, 0, none⟩) 0 0) 0 []] := by
      refine ⟨(Kept.refl _ _).alloc _, fun k => k = w.heap.size, ⟨?_, fun k => by simp [Value.ownBlock, eq_comm]⟩, fun k h => .inr (by omega), trivial⟩
      exact World.ownsRow_lit w #[] 0 (Nat.zero_le _) (by simp [maxLen]) rfl
    have hlen : (intCells l).length = l.length * 1 := by simp [intCells]
    have hnews : ∀ p, some a = some p → ∀ j u, (intCells l)[j]? = some u → (w.alloc (.cells #[] 3)).cell? (p.add j) = some u := by
      intro p hp j u hj
      refine Lib.cell?_alloc_some _ ?_
      cases hp
      have hjl : j < l.length := by have := (List.getElem?_eq_some_iff.1 hj).1; simpa [intCells] using this
      obtain ⟨b, o, e, hb, hc⟩ := hcell (by rintro rfl; simp at hjl)
      cases e
      have := hc j l[j] (List.getElem?_eq_getElem hjl)
      have e2 : u = .int .i64 l[j] := by
        have : (intCells l)[j]? = some (.int .i64 l[j]) := by simp [intCells, hjl]
        rw [hj] at this
        exact Option.some.inj this
      rw [e2, Addr.add_mid, this]
    have hb : (0 + l.length) * 8 ≤ 140737488355328 := by omega
    have h1 := one_ints l
    clear hcell
    have hq := fun w => Lib.run_eql_slice_nil (P := Tryz.prog) w 33 3 (some a) l.length cap 0 0 Tryz.underlying33
    go_enter Tryz.func82, Tryz.ntmps82
    go_wp2_with (at_builtin; go_must (refine St.list_add hnew 0 rfl rfl (.tmp 5) (.tmp 6) 33 rfl Tryz.underlying33 Tryz.info3 (by decide) rfl (intCells l) rfl hlen (by intro h; cases h) hnews h1 hb ?_; intro v' w1 H1 hz))
    go_ret
    exact ⟨v', rfl, by simpa using H1⟩
set_option maxHeartbeats 1000000 in
set_option maxRecDepth 100000 in
theorem agg_joined (q : Qry) {a b : Int} (ha : a.natAbs ≤ 4398046511104) (hb : b.natAbs ≤ 4398046511104) (w : World) : Calls Tryz.prog 285 #[qyV q, .int .i64 a, .int .i64 b] w fun e w' => e = .returned (.int .i64 (joinedM q a b)) ∧ Below w.heap.size w w' := by
  obtain ⟨kd, sz, sl, lt, ag, kk⟩ := q
  have hf0 : joinedM ⟨kd, sz, sl, lt, ag, kk⟩ a b = if ag = 3 then min a b else if ag = 4 then max a b else a + b := rfl
  unfold qyV qyC
  simp only
  have hw : IntKind.i64.wrap (a + b) = a + b := by rw [IntKind.wrap_i64]; omega
  obtain ⟨m, hm⟩ : ∃ m, min a b = m := ⟨_, rfl⟩
  have hm2 : (if a < b then a else b) = m := by rw [← hm]; split <;> omega
  obtain ⟨M, hM⟩ : ∃ m, max a b = m := ⟨_, rfl⟩
  have hM2 : (if a < b then b else a) = M := by rw [← hM]; split <;> omega
  have H := (St.nil (fun _ => False) w).allocAt rfl #[.int .i64 kd, .int .i64 sz, .int .i64 sl, .int .i64 lt, .int .i64 ag, .int .i64 kk] 23
  have c4 := H.cell 0 4 rfl rfl
  go_enter Tryz.func285, Tryz.ntmps285
  by_cases h3 : ag = 3
  · have y3 : (ag == 3) = true := by simpa using h3
    have hf := Lib.hid (show joinedM ⟨kd, sz, sl, lt, ag, kk⟩ a b = m by rw [hf0, if_pos h3, hm])
    clear h3 hf0
    go_wp2
    go_ret
    rw [hf.out]
    exact ⟨rfl, H.below (Nat.le_refl _) (fun _ h => h.elim)⟩
  · have y3 : (ag == 3) = false := by simpa using h3
    by_cases h4 : ag = 4
    · have y4 : (ag == 4) = true := by simpa using h4
      have hf := Lib.hid (show joinedM ⟨kd, sz, sl, lt, ag, kk⟩ a b = M by rw [hf0, if_neg h3, if_pos h4, hM])
      clear h3 h4 hf0
      go_wp2
      go_ret
      rw [hf.out]
      exact ⟨rfl, H.below (Nat.le_refl _) (fun _ h => h.elim)⟩
    · have y4 : (ag == 4) = false := by simpa using h4
      have hf := Lib.hid (show joinedM ⟨kd, sz, sl, lt, ag, kk⟩ a b = a + b by rw [hf0, if_neg h3, if_neg h4])
      clear h3 h4 hf0
      go_wp2
      go_ret
      rw [hf.out]
      exact ⟨rfl, H.below (Nat.le_refl _) (fun _ h => h.elim)⟩
set_option maxHeartbeats 1000000 in
set_option maxRecDepth 100000 in
theorem agg_floor {a n : Int} (ha : a.natAbs ≤ 4398046511104) (hn : 0 < n ∧ n ≤ 4398046511104) (w : World) : Calls Tryz.prog 81 #[.int .i64 a, .int .i64 n] w fun e w' => e = .returned (.int .i64 (floorM a n)) ∧ w' = w := by
  have ht : a = n * a.tdiv n + a.tmod n := (Int.mul_tdiv_add_tmod a n).symm
  have hlt := Int.tmod_lt_of_pos a hn.1
  have hgt : -n < a.tmod n := by
    have := Int.lt_tmod_of_pos a hn.1
    omega
  have hq : (a.tdiv n).natAbs ≤ 4398046511104 := by
    rw [Int.natAbs_tdiv]
    exact Nat.le_trans (Nat.div_le_self _ _) ha
  have w1 : IntKind.i64.wrap (a.tmod n) = a.tmod n := by rw [IntKind.wrap_i64]; omega
  have w2 : IntKind.i64.wrap (a.tdiv n) = a.tdiv n := by rw [IntKind.wrap_i64]; omega
  have w3 : IntKind.i64.wrap (a.tdiv n - 1) = a.tdiv n - 1 := by rw [IntKind.wrap_i64]; omega
  have z0 : (n == 0) = false := by simp; omega
  by_cases h : a.tmod n < 0
  · have hf := Lib.hid (show floorM a n = a.tdiv n - 1 by
      unfold floorM
      rw [Int.ediv_eq_iff_of_pos hn.1]
      constructor
      · rw [Int.sub_mul, Int.one_mul, Int.mul_comm]; omega
      · rw [Int.sub_mul, Int.one_mul, Int.mul_comm]; omega)
    have z1 : decide (a.tmod n < 0) = true := by simpa using h
    obtain ⟨Q, hQ⟩ : ∃ Q, a.tdiv n = Q := ⟨_, rfl⟩
    obtain ⟨R, hR⟩ : ∃ R, a.tmod n = R := ⟨_, rfl⟩
    rw [hR] at w1 z1
    rw [hQ] at w2 w3 hf
    clear ht hlt hgt hq h
    go_enter Tryz.func81, Tryz.ntmps81
    go_wp2
    go_ret
    rw [hf.out]
    exact ⟨rfl, rfl⟩
  · have hf := Lib.hid (show floorM a n = a.tdiv n by
      unfold floorM
      rw [Int.ediv_eq_iff_of_pos hn.1]
      constructor
      · rw [Int.mul_comm]; omega
      · rw [Int.mul_comm]; omega)
    have z1 : decide (a.tmod n < 0) = false := by simpa using h
    obtain ⟨Q, hQ⟩ : ∃ Q, a.tdiv n = Q := ⟨_, rfl⟩
    obtain ⟨R, hR⟩ : ∃ R, a.tmod n = R := ⟨_, rfl⟩
    rw [hR] at w1 z1
    rw [hQ] at w2 w3 hf
    clear ht hlt hgt hq h
    go_enter Tryz.func81, Tryz.ntmps81
    go_wp2
    go_ret
    rw [hf.out]
    exact ⟨rfl, rfl⟩

end Go.Proofs.YtiglgfonhdfpmaaGreat

/- The walks of the aggregates' single and copied. -/
set_option linter.unusedVariables false
set_option linter.unusedSimpArgs false
namespace Go.Proofs.YtiglgfonhdfpmaaGreat
open Go.RowKit

theorem results_ag {P : Program} {fn : Func} {t : Tmp} {ty : TypeId} (h : fn.results = #[.cell t ty]) {tmps : Array Value} {w : World} {b : Nat} {cs : List Value} {d : TypeDesc} (ht : tmps.getD t undef = .pointer (some ⟨b, 0, none⟩)) (hr : w.rangeAt b 0 cs)
    (hu : P.underlying ty = some d) (hd : d.isRow = true) (hi : (P.info? ty).map (·.size) = some cs.length) : (results fn tmps).run P w = .ok (.agg cs.toArray) w := by
  have h2 := run_loadVar_mid (P := P) w b 0 ty cs d hr hu hd hi
  have h3 : tmps[t]?.getD undef = .pointer (some ⟨b, 0, none⟩) := by simpa using ht
  simp [results, h, h3, asAddr, h2]
theorem blk_ag {w : World} {g : Nat} {t : TypeId} {f : Nat × Nat} {cs : List Value} (h : w.heap[g]? = some (.cells cs.toArray t f)) : w.rangeAt g 0 cs := fun j u hj => by rw [Nat.zero_add, cell_blk h]; simpa using hj
@[go_sem] theorem run_store_complex {P : Program} {w : World} {a : Addr} {m : Mode} (k : FloatKind) (x y : Nat) : (store a (.complex k x y) m).run P w = stored P w a (.complex k x y) m := run_store P w a _ m rfl
abbrev agZ : Array Value := #[.int .i64 0, .int .i64 0, .slice none 0 0, .complex .f64 0 0]
set_option maxHeartbeats 1000000 in
set_option maxRecDepth 100000 in
theorem agg_single (q : Qry) {v : Int} (hv : -9223372036854775808 ≤ v ∧ v ≤ 9223372036854775807) (w : World) :
    Calls Tryz.prog 251 #[qyV q, .int .i64 v] w fun e w' => ∃ h, e = .returned (agV (singleM q v) h) ∧ St (fun _ => False) w w' [Row 3 1 h (singleM q v).top.length (intCells (singleM q v).top)] := by
  have kt := fun w' => gauss_turn hv w'
  obtain ⟨kd, sz, sl, lt, ag, kk⟩ := q
  have hf0 : singleM ⟨kd, sz, sl, lt, ag, kk⟩ v = if 2 ≤ ag ∧ ag ≤ 5 then ⟨1, v, [], 0, 0⟩ else if ag = 6 then ⟨1, 0, [v], 0, 0⟩ else if ag = 7 then ⟨1, 0, [], turnX v, turnY v⟩ else ⟨1, 0, [], 0, 0⟩ := rfl
  have e0 := ib_zero
  unfold qyV qyC
  simp only
  obtain ⟨b, hb⟩ : ∃ g, w.heap.size = g := ⟨_, rfl⟩
  obtain ⟨b2, hb2⟩ : ∃ b2, b + 1 = b2 := ⟨_, rfl⟩
  have H0 : St (fun _ => False) w _ [_] := (St.nil _ w).allocAt hb #[.int .i64 kd, .int .i64 sz, .int .i64 sl, .int .i64 lt, .int .i64 ag, .int .i64 kk] 23
  have H := H0.allocAt (B := b2) (by rw [← hb2, ← hb]; exact Array.size_push _) agZ 66
  obtain ⟨w1, hw1⟩ : ∃ w1, (w.alloc (.cells #[.int .i64 kd, .int .i64 sz, .int .i64 sl, .int .i64 lt, .int .i64 ag, .int .i64 kk] 23)).alloc (.cells agZ 66) = w1 := ⟨_, rfl⟩
  rw [hw1] at H
  unfold agZ at *
  go_enter Tryz.func251, Tryz.ntmps251
  go_upto_region 1 with (fail)
  try simp only [hb, hb2]
  try rw [hw1]
  clear hw1 hb hb2 H0
  obtain ⟨b3, hb3⟩ : ∃ g, w1.heap.size = g := ⟨_, rfl⟩
  have H3 := H.allocAt hb3 #[.int .i64 0, .int .i64 0, .slice none 0 0, .complex .f64 0 0] 66
  have p0 := H3.free 0 0 rfl
  have p1 := H3.free 0 1 rfl
  have p2 := H3.free 0 2 rfl
  have p3 := H3.free 0 3 rfl
  have o0 := H3.cell 0 0 rfl rfl
  have o1 := H3.cell 0 1 rfl rfl
  have o2 := H3.cell 0 2 rfl rfl
  have o3 := H3.cell 0 3 rfl rfl
  have H4 := H.allocAt hb3 #[.int .i64 1, .int .i64 0, .slice none 0 0, .complex .f64 0 0] 66
  go_upto_region 2 with (fail)
  clear H3 p0 p1 p2 p3 o0 o1 o2 o3
  obtain ⟨w2, hw2⟩ : ∃ w2, w1.alloc (.cells #[.int .i64 1, .int .i64 0, .slice none 0 0, .complex .f64 0 0] 66) = w2 := ⟨_, rfl⟩
  rw [hw2] at H4 ⊢
  clear hw2 hb3 H
  have c4 := H4.cell 2 4 rfl rfl
  have p0 := H4.free 0 0 rfl
  have p1 := H4.free 0 1 rfl
  have p2 := H4.free 0 2 rfl
  have p3 := H4.free 0 3 rfl
  have o0 := H4.cell 0 0 rfl rfl
  have o1 := H4.cell 0 1 rfl rfl
  have o2 := H4.cell 0 2 rfl rfl
  have o3 := H4.cell 0 3 rfl rfl
  have r0 := H4.free 1 0 rfl
  have r1 := H4.free 1 1 rfl
  have r2 := H4.free 1 2 rfl
  have r3 := H4.free 1 3 rfl
  have x0 := H4.cell 1 0 rfl rfl
  have x1 := H4.cell 1 1 rfl rfl
  have x2 := H4.cell 1 2 rfl rfl
  have x3 := H4.cell 1 3 rfl rfl
  have hk : (2 ≤ ag ∧ ag ≤ 5) ∨ ag = 6 ∨ ag = 7 ∨ (¬ (2 ≤ ag ∧ ag ≤ 5) ∧ ag ≠ 6 ∧ ag ≠ 7) := by omega
  rcases hk with h | rfl | rfl | ⟨h, h6, h7⟩
  case inl =>
    have hf := Lib.hid (show singleM ⟨kd, sz, sl, lt, ag, kk⟩ v = ⟨1, v, [], 0, 0⟩ by rw [hf0, if_pos h])
    have hk : ag = 2 ∨ ag = 5 ∨ ag = 3 ∨ ag = 4 := by omega
    clear hf0 h
    rcases hk with rfl | rfl | rfl | rfl
    all_goals
      have H6 := H4.set 0 rfl 1 (.int .i64 v)
      go_upto_region 12 with (fail)
      obtain ⟨w5, hw5⟩ : ∃ w5, w2.setCell ⟨b3, 1, none⟩ (.int .i64 v) = w5 := ⟨_, rfl⟩
      rw [hw5] at H6
      try rw [hw5]
      clear hw5 H4 p0 p1 p2 p3 o0 o1 o2 o3 r0 r1 r2 r3 x0 x1 x2 x3 c4
      have H6 : St (fun _ => False) w w5 [Blk b3 #[.int .i64 1, .int .i64 v, .slice none 0 0, .complex .f64 0 0] 66, Blk b2 #[.int .i64 0, .int .i64 0, .slice none 0 0, .complex .f64 0 0] 66, _] := H6
      have p0 := H6.free 0 0 rfl
      have p1 := H6.free 0 1 rfl
      have p2 := H6.free 0 2 rfl
      have p3 := H6.free 0 3 rfl
      have o0 := H6.cell 0 0 rfl rfl
      have o1 := H6.cell 0 1 rfl rfl
      have o2 := H6.cell 0 2 rfl rfl
      have o3 := H6.cell 0 3 rfl rfl
      have r0 := H6.free 1 0 rfl
      have r1 := H6.free 1 1 rfl
      have r2 := H6.free 1 2 rfl
      have r3 := H6.free 1 3 rfl
      have x0 := H6.cell 1 0 rfl rfl
      have x1 := H6.cell 1 1 rfl rfl
      have x2 := H6.cell 1 2 rfl rfl
      have x3 := H6.cell 1 3 rfl rfl
      have HR := (((H6.set 1 rfl 0 (.int .i64 1)).set 1 rfl 1 (.int .i64 v)).set 1 rfl 2 (.slice none 0 0)).set 1 rfl 3 (.complex .f64 0 0)
      go_wp2
      try simp only [Exit.inBlock, Exit.then]
      refine bodyPost_ret (results_ag rfl rfl (blk_ag (cs := [.int .i64 1, .int .i64 v, .slice none 0 0, .complex .f64 0 0]) (HR.blk 1 rfl)) Tryz.underlying66 rfl (by kernel_rfl)) rfl ?_
      rw [hf.out]
      refine ⟨.slice none 0 0, ?_, ((HR.row_nil 3 1).pick [0])⟩
      rw [agV, agC, e0]
  case inr.inl =>
    have hf := Lib.hid (show singleM ⟨kd, sz, sl, lt, 6, kk⟩ v = ⟨1, 0, [v], 0, 0⟩ by rw [hf0]; simp)
    clear hf0
    obtain ⟨b4, hb4⟩ : ∃ g, w2.heap.size = g := ⟨_, rfl⟩
    go_upto_region 9 with (fail)
    have H5 := H4.allocAt hb4 #[.int .i64 v] 3
    clear p0 p1 p2 p3 o0 o1 o2 o3 r0 r1 r2 r3 x0 x1 x2 x3 c4
    have p0 := H5.free 1 0 rfl
    have p1 := H5.free 1 1 rfl
    have p2 := H5.free 1 2 rfl
    have p3 := H5.free 1 3 rfl
    have o0 := H5.cell 1 0 rfl rfl
    have o1 := H5.cell 1 1 rfl rfl
    have o2 := H5.cell 1 2 rfl rfl
    have o3 := H5.cell 1 3 rfl rfl
    have H6 := H5.set 1 rfl 2 (.slice (some ⟨b4, 0, none⟩) 1 1)
    go_upto_region 12 with (fail)
    obtain ⟨w5, hw5⟩ : ∃ w5, (w2.alloc (.cells #[.int .i64 v] 3)).setCell ⟨b3, 2, none⟩ (.slice (some ⟨b4, 0, none⟩) 1 1) = w5 := ⟨_, rfl⟩
    rw [hw5] at H6
    try rw [hw5]
    clear hw5 hb4 H5 H4 p0 p1 p2 p3 o0 o1 o2 o3
    have H6 : St (fun _ => False) w w5 [Blk b4 #[.int .i64 v] 3, Blk b3 #[.int .i64 1, .int .i64 0, .slice (some ⟨b4, 0, none⟩) 1 1, .complex .f64 0 0] 66, Blk b2 #[.int .i64 0, .int .i64 0, .slice none 0 0, .complex .f64 0 0] 66, _] := H6
    have p0 := H6.free 1 0 rfl
    have p1 := H6.free 1 1 rfl
    have p2 := H6.free 1 2 rfl
    have p3 := H6.free 1 3 rfl
    have o0 := H6.cell 1 0 rfl rfl
    have o1 := H6.cell 1 1 rfl rfl
    have o2 := H6.cell 1 2 rfl rfl
    have o3 := H6.cell 1 3 rfl rfl
    have r0 := H6.free 2 0 rfl
    have r1 := H6.free 2 1 rfl
    have r2 := H6.free 2 2 rfl
    have r3 := H6.free 2 3 rfl
    have x0 := H6.cell 2 0 rfl rfl
    have x1 := H6.cell 2 1 rfl rfl
    have x2 := H6.cell 2 2 rfl rfl
    have x3 := H6.cell 2 3 rfl rfl
    have HR := (((H6.set 2 rfl 0 (.int .i64 1)).set 2 rfl 1 (.int .i64 0)).set 2 rfl 2 (.slice (some ⟨b4, 0, none⟩) 1 1)).set 2 rfl 3 (.complex .f64 0 0)
    go_wp2
    try simp only [Exit.inBlock, Exit.then]
    refine bodyPost_ret (results_ag rfl rfl (blk_ag (cs := [.int .i64 1, .int .i64 0, .slice (some ⟨b4, 0, none⟩) 1 1, .complex .f64 0 0]) (HR.blk 2 rfl)) Tryz.underlying66 rfl (by kernel_rfl)) rfl ?_
    rw [hf.out]
    refine ⟨.slice (some ⟨b4, 0, none⟩) 1 1, ?_, (HR.blk_row 0 (e := 3) (size := 1) (cap := 1) (n := 1) (cs := [.int .i64 v]) (xs := intCells [v]) rfl (Nat.le_refl _) (by decide) rfl rfl).pick [0]⟩
    rw [agV, agC, e0]
  case inr.inr.inl =>
    have hf := Lib.hid (show singleM ⟨kd, sz, sl, lt, 7, kk⟩ v = ⟨1, 0, [], turnX v, turnY v⟩ by rw [hf0]; simp)
    clear hf0
    obtain ⟨X, hX⟩ : ∃ X, ib (turnX v) = X := ⟨_, rfl⟩
    obtain ⟨Y, hY⟩ : ∃ Y, ib (turnY v) = Y := ⟨_, rfl⟩
    simp only [hX, hY] at kt
    have hXh := Lib.hid hX
    have hYh := Lib.hid hY
    clear hX hY
    have H6 := H4.set 0 rfl 3 (.complex .f64 X Y)
    go_upto_region 12 with (go_at_call 289; go_must (refine (kt _).mono ?_; rintro e w3 ⟨rfl, e3⟩; rw [e3]; clear e3))
    obtain ⟨w5, hw5⟩ : ∃ w5, w2.setCell ⟨b3, 3, none⟩ (.complex .f64 X Y) = w5 := ⟨_, rfl⟩
    rw [hw5] at H6
    try rw [hw5]
    clear hw5 H4 p0 p1 p2 p3 o0 o1 o2 o3 r0 r1 r2 r3 x0 x1 x2 x3 c4
    have H6 : St (fun _ => False) w w5 [Blk b3 #[.int .i64 1, .int .i64 0, .slice none 0 0, .complex .f64 X Y] 66, Blk b2 #[.int .i64 0, .int .i64 0, .slice none 0 0, .complex .f64 0 0] 66, _] := H6
    have p0 := H6.free 0 0 rfl
    have p1 := H6.free 0 1 rfl
    have p2 := H6.free 0 2 rfl
    have p3 := H6.free 0 3 rfl
    have o0 := H6.cell 0 0 rfl rfl
    have o1 := H6.cell 0 1 rfl rfl
    have o2 := H6.cell 0 2 rfl rfl
    have o3 := H6.cell 0 3 rfl rfl
    have r0 := H6.free 1 0 rfl
    have r1 := H6.free 1 1 rfl
    have r2 := H6.free 1 2 rfl
    have r3 := H6.free 1 3 rfl
    have x0 := H6.cell 1 0 rfl rfl
    have x1 := H6.cell 1 1 rfl rfl
    have x2 := H6.cell 1 2 rfl rfl
    have x3 := H6.cell 1 3 rfl rfl
    have HR := (((H6.set 1 rfl 0 (.int .i64 1)).set 1 rfl 1 (.int .i64 0)).set 1 rfl 2 (.slice none 0 0)).set 1 rfl 3 (.complex .f64 X Y)
    go_wp2
    try simp only [Exit.inBlock, Exit.then]
    refine bodyPost_ret (results_ag rfl rfl (blk_ag (cs := [.int .i64 1, .int .i64 0, .slice none 0 0, .complex .f64 X Y]) (HR.blk 1 rfl)) Tryz.underlying66 rfl (by kernel_rfl)) rfl ?_
    rw [hf.out]
    refine ⟨.slice none 0 0, ?_, ((HR.row_nil 3 1).pick [0])⟩
    rw [agV, agC, hXh.out, hYh.out]
  case inr.inr.inr =>
    have hf := Lib.hid (show singleM ⟨kd, sz, sl, lt, ag, kk⟩ v = ⟨1, 0, [], 0, 0⟩ by rw [hf0, if_neg h, if_neg h6, if_neg h7])
    have y2 : (ag == 2) = false := by simp; omega
    have y3 : (ag == 3) = false := by simp; omega
    have y4 : (ag == 4) = false := by simp; omega
    have y5 : (ag == 5) = false := by simp; omega
    have y6 : (ag == 6) = false := by simp; omega
    have y7 : (ag == 7) = false := by simp; omega
    have HR := (((H4.set 1 rfl 0 (.int .i64 1)).set 1 rfl 1 (.int .i64 0)).set 1 rfl 2 (.slice none 0 0)).set 1 rfl 3 (.complex .f64 0 0)
    clear hf0 h h6 h7
    go_wp2
    try simp only [Exit.inBlock, Exit.then]
    refine bodyPost_ret (results_ag rfl rfl (blk_ag (cs := [.int .i64 1, .int .i64 0, .slice none 0 0, .complex .f64 0 0]) (HR.blk 1 rfl)) Tryz.underlying66 rfl (by kernel_rfl)) rfl ?_
    rw [hf.out]
    refine ⟨.slice none 0 0, ?_, ((HR.row_nil 3 1).pick [0])⟩
    rw [agV, agC, e0]

end Go.Proofs.YtiglgfonhdfpmaaGreat

/- The walk of the aggregates' copied. -/
set_option linter.unusedVariables false
set_option linter.unusedSimpArgs false
namespace Go.Proofs.YtiglgfonhdfpmaaGreat
open Go.RowKit

set_option maxHeartbeats 1000000 in
set_option maxRecDepth 100000 in
theorem agg_copied (g : Ag) {hv : Value} (w : World) (hr : IntsRO w hv g.top) (hl : g.top.length ≤ 1073741824) :
    Calls Tryz.prog 283 #[agV g hv] w fun e w' => ∃ h, e = .returned (agV g h) ∧ St (fun _ => False) w w' [Row 3 1 h g.top.length (intCells g.top)] := by
  have hr0 := hr
  obtain ⟨ad, cap, rfl, -⟩ := hr
  obtain ⟨n, a, tp, x, y⟩ := g
  simp only at hr0 hl
  unfold agV agC
  simp only
  obtain ⟨X, hX⟩ : ∃ X, ib x = X := ⟨_, rfl⟩
  obtain ⟨Y, hY⟩ : ∃ Y, ib y = Y := ⟨_, rfl⟩
  rw [hX, hY]
  clear hX hY
  obtain ⟨b, hb⟩ : ∃ g, w.heap.size = g := ⟨_, rfl⟩
  obtain ⟨b2, hb2⟩ : ∃ b2, b + 1 = b2 := ⟨_, rfl⟩
  have H0 : St (fun _ => False) w _ [_] := (St.nil _ w).allocAt hb #[.int .i64 n, .int .i64 a, .slice ad tp.length cap, .complex .f64 X Y] 66
  have H := H0.allocAt (B := b2) (by rw [← hb2, ← hb]; exact Array.size_push _) agZ 66
  obtain ⟨w1, hw1⟩ : ∃ w1, (w.alloc (.cells #[.int .i64 n, .int .i64 a, .slice ad tp.length cap, .complex .f64 X Y] 66)).alloc (.cells agZ 66) = w1 := ⟨_, rfl⟩
  rw [hw1] at H
  unfold agZ at *
  have kc := ints_clone (hr0.later H.kept) hl
  go_enter Tryz.func283, Tryz.ntmps283
  go_upto_region 1 with (fail)
  try simp only [hb, hb2]
  try rw [hw1]
  clear hw1 hb hb2 H0
  have d2 := H.cell 1 2 rfl rfl
  go_upto_region 2 with (go_at_call 82; go_must (refine kc.mono ?_; rintro e w2 ⟨v2, rfl, H1⟩; have H2 : St (fun _ => False) w w2 [Row 3 1 v2 tp.length (intCells tp), Blk b2 #[.int .i64 0, .int .i64 0, .slice none 0 0, .complex .f64 0 0] 66, Blk b #[.int .i64 n, .int .i64 a, .slice ad tp.length cap, .complex .f64 X Y] 66] := H.call0 H1; clear d2; obtain ⟨a2, c2, rfl, -, -⟩ := slice_form' (H2.row 0 rfl); have p2 := H2.free 2 2 rfl; have o2 := H2.cell 2 2 rfl rfl))
  have H3 := H2.set 2 rfl 2 (.slice a2 tp.length c2)
  obtain ⟨w3, hw3⟩ : ∃ w3, w2.setCell ⟨b, 2, none⟩ (.slice a2 tp.length c2) = w3 := ⟨_, rfl⟩
  rw [hw3] at H3
  try rw [hw3]
  clear hw3 H2 H1 p2 o2 kc H
  have H3 : St (fun _ => False) w w3 [Row 3 1 (.slice a2 tp.length c2) tp.length (intCells tp), Blk b2 #[.int .i64 0, .int .i64 0, .slice none 0 0, .complex .f64 0 0] 66, Blk b #[.int .i64 n, .int .i64 a, .slice a2 tp.length c2, .complex .f64 X Y] 66] := H3
  have o0 := H3.cell 2 0 rfl rfl
  have o1 := H3.cell 2 1 rfl rfl
  have o2 := H3.cell 2 2 rfl rfl
  have o3 := H3.cell 2 3 rfl rfl
  have r0 := H3.free 1 0 rfl
  have r1 := H3.free 1 1 rfl
  have r2 := H3.free 1 2 rfl
  have r3 := H3.free 1 3 rfl
  have x0 := H3.cell 1 0 rfl rfl
  have x1 := H3.cell 1 1 rfl rfl
  have x2 := H3.cell 1 2 rfl rfl
  have x3 := H3.cell 1 3 rfl rfl
  have HR := (((H3.set 1 rfl 0 (.int .i64 n)).set 1 rfl 1 (.int .i64 a)).set 1 rfl 2 (.slice a2 tp.length c2)).set 1 rfl 3 (.complex .f64 X Y)
  go_wp2
  try simp only [Exit.inBlock, Exit.then]
  refine bodyPost_ret (results_ag rfl rfl (blk_ag (cs := [.int .i64 n, .int .i64 a, .slice a2 tp.length c2, .complex .f64 X Y]) (HR.blk 1 rfl)) Tryz.underlying66 rfl (by kernel_rfl)) rfl ?_
  exact ⟨.slice a2 tp.length c2, rfl, HR.pick [0]⟩

end Go.Proofs.YtiglgfonhdfpmaaGreat

/- The walk of the aggregates' Value. Condition: what is known is right. -/
set_option linter.unusedVariables false
set_option linter.unusedSimpArgs false
namespace Go.Proofs.YtiglgfonhdfpmaaGreat
open Go.RowKit

/-- What right says of the numbers. -/
theorem right_nums {q : Qry} {g : Ag} (h : g.right q = true) : (1 ≤ q.agg ∧ q.agg ≤ 7) ∧ (0 ≤ g.n ∧ g.n ≤ 1073741824) ∧ g.a.natAbs ≤ 4398046511104 ∧ g.top.length ≤ 8 ∧ partB g.x = true ∧ partB g.y = true ∧ g.x.natAbs ≤ 1073741824 ∧ g.y.natAbs ≤ 1073741824 := by
  obtain ⟨h1, h2, h3, h4, h5, h6, h7, h8, h9⟩ := Ag.right_iff.1 h
  have hq : (1 ≤ q.agg ∧ q.agg ≤ 7) ∧ q.kB = true := by
    unfold Qry.right at h1
    simp only [Bool.and_eq_true, decide_eq_true_eq] at h1
    exact ⟨h1.1.2, h1.2⟩
  have hx := partB_iff.1 h7
  have hy := partB_iff.1 h8
  refine ⟨hq.1, ⟨h2, h3⟩, ?_, ?_, h7, h8, by omega, by omega⟩
  · unfold numB at h4
    split at h4
    · simp only [Bool.and_eq_true, decide_eq_true_eq] at h4; omega
    · split at h4
      · have := valB_iff.1 h4; omega
      · simp only [decide_eq_true_eq] at h4; omega
  · rcases topB_iff.1 h5 with ⟨h6, hl, -⟩ | ⟨-, h0⟩
    · have hk := hq.2
      unfold Qry.kB at hk
      rw [if_pos h6] at hk
      simp only [Bool.and_eq_true, decide_eq_true_eq] at hk
      omega
    · rw [h0]; simp
set_option maxHeartbeats 4000000 in
set_option maxRecDepth 100000 in
theorem agg_val (q : Qry) (g : Ag) {hv : Value} (w : World) (hr : IntsRO w hv g.top) (hg : g.right q = true) :
    Calls Tryz.prog 31 #[qyV q, agV g hv] w fun e w' => ∃ v', e = .returned v' ∧ St (fun _ => False) w w' [Row 3 1 v' (valueM q g).length (intCells (valueM q g))] := by
  obtain ⟨⟨a1, a7⟩, ⟨n0, nm⟩, ha, htl, px, py, hx, hy⟩ := right_nums hg
  have kr := fun w' (h : IntsRO w' hv g.top) => agg_right q g w' h (by omega) (by omega) (by omega)
  have kp := fun w' => gauss_parts (x := g.x) (y := g.y) (by omega) (by omega) w'
  have hpm : partsM g.x g.y = (g.x, g.y) := by unfold partsM; rw [if_pos ⟨px, py⟩]
  rw [hpm] at kp
  rw [hg] at kr
  have kc := fun w' (h : IntsRO w' hv g.top) => ints_clone h (by omega)
  have kf := fun (h : ¬ g.n = 0) w' => agg_floor (a := g.a) (n := g.n) ha ⟨by omega, by omega⟩ w'
  have hr0 := hr
  obtain ⟨ad, cap, rfl, -⟩ := hr
  have hf0 : valueM q g = if g.n = 0 then [] else if q.agg = 1 then [g.n] else if q.agg = 5 then [floorM g.a g.n] else if q.agg = 6 then g.top else if q.agg = 7 then [g.x, g.y] else [g.a] := rfl
  obtain ⟨F, hF⟩ : ∃ F, floorM g.a g.n = F := ⟨_, rfl⟩
  rw [hF] at hf0
  simp only [hF] at kf
  clear hF hg hpm px py ha htl
  obtain ⟨V, hV⟩ : ∃ V, valueM q g = V := ⟨_, rfl⟩
  rw [hV] at hf0 ⊢
  clear hV
  obtain ⟨kd, sz, sl, lt, ag, kk⟩ := q
  obtain ⟨n, a, tp, x, y⟩ := g
  simp only at *
  unfold qyV agV qyC agC at *
  simp only at *
  obtain ⟨X, hX⟩ : ∃ X, ib x = X := ⟨_, rfl⟩
  obtain ⟨Y, hY⟩ : ∃ Y, ib y = Y := ⟨_, rfl⟩
  simp only [hX, hY] at kr kp ⊢
  clear hX hY
  obtain ⟨b, hb⟩ : ∃ g, w.heap.size = g := ⟨_, rfl⟩
  obtain ⟨b2, hb2⟩ : ∃ b2, b + 1 = b2 := ⟨_, rfl⟩
  have H0 : St (fun _ => False) w _ [_] := (St.nil _ w).allocAt hb #[.int .i64 kd, .int .i64 sz, .int .i64 sl, .int .i64 lt, .int .i64 ag, .int .i64 kk] 23
  have H := H0.allocAt (B := b2) (by rw [← hb2, ← hb]; exact Array.size_push _) #[.int .i64 n, .int .i64 a, .slice ad tp.length cap, .complex .f64 X Y] 66
  obtain ⟨w1, hw1⟩ : ∃ w1, (w.alloc (.cells #[.int .i64 kd, .int .i64 sz, .int .i64 sl, .int .i64 lt, .int .i64 ag, .int .i64 kk] 23)).alloc (.cells #[.int .i64 n, .int .i64 a, .slice ad tp.length cap, .complex .f64 X Y] 66) = w1 := ⟨_, rfl⟩
  rw [hw1] at H
  go_enter Tryz.func31, Tryz.ntmps31
  go_upto_region 1 with (fail)
  try simp only [hb, hb2]
  try rw [hw1]
  clear hw1 hb hb2 H0
  have c0 := H.cell 1 0 rfl rfl
  have c1 := H.cell 1 1 rfl rfl
  have c2 := H.cell 1 2 rfl rfl
  have c3 := H.cell 1 3 rfl rfl
  have c4 := H.cell 1 4 rfl rfl
  have c5 := H.cell 1 5 rfl rfl
  have d0 := H.cell 0 0 rfl rfl
  have d1 := H.cell 0 1 rfl rfl
  have d2 := H.cell 0 2 rfl rfl
  have d3 := H.cell 0 3 rfl rfl
  by_cases hn : n = 0
  · have y0 : (n == 0) = true := by simpa using hn
    have hf := Lib.hid (show V = [] by rw [hf0, if_pos hn])
    clear hf0 hn kf
    go_wp2_with (go_at_call 80; go_must (with_reducible refine (St.callPast (kr _ (hr0.later H.kept)) H).mono ?_; clear c0 c1 c2 c3 c4 c5 d0 d1 d2 d3 H; rintro e w2 ⟨rfl, H⟩; have d0 := H.cell 0 0 rfl rfl))
    go_ret
    rw [hf.out]
    exact ⟨_, rfl, (H.row_nil 3 1).pick [0]⟩
  have y0 : (n == 0) = false := by simpa using hn
  rw [if_neg hn] at hf0
  have kf := kf hn
  clear hn
  go_upto_region 3 with (go_at_call 80; go_must (with_reducible refine (St.callPast (kr _ (hr0.later H.kept)) H).mono ?_; clear c0 c1 c2 c3 c4 c5 d0 d1 d2 d3 H; rintro e w2 ⟨rfl, H⟩; have d0 := H.cell 0 0 rfl rfl))
  clear kr
  have kc := kc _ (hr0.later H.kept)
  have c4 := H.cell 1 4 rfl rfl
  have d1 := H.cell 0 1 rfl rfl
  have d2 := H.cell 0 2 rfl rfl
  have d3 := H.cell 0 3 rfl rfl
  obtain ⟨b4, hb4⟩ : ∃ g, w2.heap.size = g := ⟨_, rfl⟩
  have hone : ∀ (z : Int), ∃ v', Value.slice (some ⟨b4, 0, none⟩) 1 1 = v' ∧ St (fun _ => False) w (w2.alloc (.cells #[.int .i64 z] 3)) [Row 3 1 v' [z].length (intCells [z])] := fun z =>
    ⟨_, rfl, ((H.allocAt hb4 #[.int .i64 z] 3).blk_row 0 (e := 3) (size := 1) (cap := 1) (n := 1) (cs := [.int .i64 z]) (xs := intCells [z]) rfl (Nat.le_refl _) (by decide) rfl rfl).pick [0]⟩
  have htwo : ∀ (z z2 : Int), ∃ v', Value.slice (some ⟨b4, 0, none⟩) 2 2 = v' ∧ St (fun _ => False) w (w2.alloc (.cells #[.int .i64 z, .int .i64 z2] 3)) [Row 3 1 v' [z, z2].length (intCells [z, z2])] := fun z z2 =>
    ⟨_, rfl, ((H.allocAt hb4 #[.int .i64 z, .int .i64 z2] 3).blk_row 0 (e := 3) (size := 1) (cap := 2) (n := 2) (cs := [.int .i64 z, .int .i64 z2]) (xs := intCells [z, z2]) rfl (Nat.le_refl _) (by decide) rfl rfl).pick [0]⟩
  have hone := Lib.hid hone
  have htwo := Lib.hid htwo
  have hk : ag = 1 ∨ ag = 5 ∨ ag = 6 ∨ ag = 7 ∨ ag = 2 ∨ ag = 3 ∨ ag = 4 := by omega
  clear a1 a7
  rcases hk with rfl | rfl | rfl | rfl | rfl | rfl | rfl
  case inl =>
    have hf := Lib.hid (show V = [n] by rw [hf0]; simp)
    clear hf0 kc
    go_wp2
    go_ret
    rw [hf.out]
    obtain ⟨v', e, h⟩ := hone.out n
    exact ⟨v', by rw [← e]; rfl, h⟩
  case inr.inl =>
    have hf := Lib.hid (show V = [F] by rw [hf0]; simp)
    clear hf0 kc
    go_wp2_with (go_at_call 81; go_must (refine (kf _).mono ?_; rintro e w3 ⟨rfl, e3⟩; rw [e3]; clear e3))
    go_ret
    rw [hf.out]
    obtain ⟨v', e, h⟩ := hone.out F
    exact ⟨v', by rw [← e]; rfl, h⟩
  case inr.inr.inl =>
    have hf := Lib.hid (show V = tp by rw [hf0]; simp)
    clear hf0
    go_wp2_with (go_at_call 82; go_must (refine kc.mono ?_; rintro e w3 ⟨v3, rfl, H1⟩))
    go_ret
    rw [hf.out]
    exact ⟨_, rfl, (H.call0 H1).pick [0]⟩
  case inr.inr.inr.inl =>
    have hf := Lib.hid (show V = [x, y] by rw [hf0]; simp)
    clear hf0 kc
    go_wp2_with (go_at_call 83; go_must (refine (kp _).mono ?_; rintro e w3 ⟨rfl, e3⟩; rw [e3]; clear e3))
    go_ret
    rw [hf.out]
    obtain ⟨v', e, h⟩ := htwo.out x y
    exact ⟨v', by rw [← e]; rfl, h⟩
  all_goals
    have hf := Lib.hid (show V = [a] by rw [hf0]; simp)
    clear hf0 kc
    go_wp2
    go_ret
    rw [hf.out]
    obtain ⟨v', e, h⟩ := hone.out a
    exact ⟨v', by rw [← e]; rfl, h⟩

end Go.Proofs.YtiglgfonhdfpmaaGreat

/- Panes and outs as cells; their lists of numbers, which are never written in place, in a pool. Laws. -/
set_option linter.unusedVariables false
set_option linter.unusedSimpArgs false
namespace Go.Proofs.YtiglgfonhdfpmaaGreat
open Go.RowKit

/-- A pane with where its top ones lie. -/
structure Pm where
  p : Pn
  ad : Option Addr
  cap : Nat
abbrev Pm.hd (m : Pm) : Value := .slice m.ad m.p.g.top.length m.cap
def Pm.own (m : Pm) : Value × List Int := (m.hd, m.p.g.top)
abbrev pnC (m : Pm) : Array Value := #[textV m.p.w.key, .int .i64 m.p.w.frm, .int .i64 m.p.w.to, .int .i64 m.p.g.n, .int .i64 m.p.g.a, m.hd, .complex .f64 (ib m.p.g.x) (ib m.p.g.y), .int .i64 m.p.round]
abbrev pnV (m : Pm) : Value := .agg (pnC m)
def encP : Enc Pm where
  cells m := (pnC m).toList
  k := 8
  len _ := rfl
  pos := by decide
  one m v hv := by
    simp only [pnC, textV, List.mem_cons, List.not_mem_nil, or_false] at hv
    rcases hv with rfl | rfl | rfl | rfl | rfl | rfl | rfl | rfl <;> rfl
structure Om where
  o : Ot
  ad : Option Addr
  cap : Nat
abbrev Om.hd (m : Om) : Value := .slice m.ad m.o.value.length m.cap
def Om.own (m : Om) : Value × List Int := (m.hd, m.o.value)
abbrev otC (m : Om) : Array Value := #[.bool m.o.late, .int .i64 m.o.item.kind, textV m.o.item.key, .int .i64 m.o.item.time, .int .i64 m.o.item.value, textV m.o.w.key, .int .i64 m.o.w.frm, .int .i64 m.o.w.to, .int .i64 m.o.round, m.hd]
abbrev otV (m : Om) : Value := .agg (otC m)
def encO : Enc Om where
  cells m := (otC m).toList
  k := 10
  len _ := rfl
  pos := by decide
  one m v hv := by
    simp only [otC, textV, List.mem_cons, List.not_mem_nil, or_false] at hv
    rcases hv with rfl | rfl | rfl | rfl | rfl | rfl | rfl | rfl | rfl | rfl <;> rfl

/-- Lists of numbers that lie somewhere, each in its slice. -/
def Pool (H : List (Value × List Int)) : SP where
  on w S := (∀ h ∈ H, IntsRO w h.1 h.2 ∧ (h.2 ≠ [] → ∃ b o n c, h.1 = .slice (some ⟨b, o, none⟩) n c ∧ S b)) ∧ ∀ k, S k → k < w.heap.size
  loc w w' S h hs := by
    have hlt : ∀ k, S k → k < w'.heap.size := fun k hk => by
      have h1 := h.2 k hk
      have e := hs k hk
      rw [Array.getElem?_eq_getElem h1] at e
      exact (Array.getElem?_eq_some_iff.1 e).1
    refine ⟨fun x hx => ⟨?_, (h.1 x hx).2⟩, hlt⟩
    obtain ⟨⟨ad, cap, e1, e2, e3, e4⟩, h2⟩ := h.1 x hx
    refine ⟨ad, cap, e1, e2, e3, fun hl => ?_⟩
    obtain ⟨b, o, g1, g2, g3⟩ := e4 hl
    obtain ⟨b', o', n, c, k1, k2⟩ := h2 hl
    rw [e1, g1] at k1
    have hb : b = b' := by injection k1 with k1 _ _; injection k1 with k1; injection k1
    subst hb
    exact ⟨b, o, g1, hlt b k2, fun i z hi => (World.cell?_of_block (w := w) (hs b k2)).trans (g3 i z hi)⟩
  lt w S k h hk := h.2 k hk

section
variable {S : Nat → Prop} {w0 w w' : World} {l : List SP}
theorem St.pool_nil (h : St S w0 w l) : St S w0 w (Pool [] :: l) :=
  ⟨h.kept, fun _ => False, ⟨fun _ h => by simp at h, fun _ h => h.elim⟩, fun _ h => h.elim, h.sep.mono (fun _ _ h => ⟨h, id⟩)⟩
theorem St.pool_get (h : St S w0 w l) (i : Nat) {H : List (Value × List Int)} (hi : l[i]? = some (Pool H)) {x : Value × List Int} (hx : x ∈ H) : IntsRO w x.1 x.2 := by
  obtain ⟨S1, h1⟩ := Sep.get i hi h.sep
  exact (h1.1 x hx).1
theorem St.pool_sub (h : St S w0 w l) (i : Nat) {H H' : List (Value × List Int)} (hi : l[i]? = some (Pool H)) (hs : ∀ x ∈ H', x ∈ H) : St S w0 w (l.set i (Pool H')) := by
  obtain ⟨S1, h1, h2⟩ := h.turn i hi
  exact h2 (S1' := S1) (Kept.refl _ _) ⟨fun x hx => h1.1 x (hs x hx), h1.2⟩ (fun _ a => .inl a)
/-- A new row of numbers goes into the pool. -/
theorem St.pool_add {t : TypeId} {v : Value} {n : Nat} {xs : List Int} {H : List (Value × List Int)} (h : St S w0 w (Row t 1 v n (intCells xs) :: Pool H :: l)) (hr : IntsRO w v xs) : St S w0 w (Pool ((v, xs) :: H) :: l) := by
  refine ⟨h.kept, ?_⟩
  obtain ⟨S1, h1, h2, S2, h3, h4, h5⟩ := h.sep
  refine ⟨fun k => S1 k ∨ S2 k, ⟨?_, ?_⟩, ?_, h5.mono ?_⟩
  · intro x hx
    rcases List.mem_cons.1 hx with rfl | hx
    · refine ⟨hr, fun hl => ?_⟩
      obtain ⟨ad, cap, e1, e2, e3, e4⟩ := hr
      obtain ⟨b, o, g1, g2, g3⟩ := e4 hl
      refine ⟨b, o, _, _, by rw [e1, g1], .inl ((h1.2 b).2 ?_)⟩
      rw [show v = _ from e1, g1]
      rfl
    · obtain ⟨k1, k2⟩ := h3.1 x hx
      exact ⟨k1, fun hl => by obtain ⟨b, o, n, c, k3, k4⟩ := k2 hl; exact ⟨b, o, n, c, k3, .inr k4⟩⟩
  · rintro k (hk | hk)
    · exact (h1.1.lt k ((h1.2 k).1 hk)).2
    · exact h3.2 k hk
  · rintro k (hk | hk)
    · exact h2 k hk
    · exact (h4 k hk).1
  · rintro k _ ⟨⟨a, b⟩, c⟩
    exact ⟨a, by rintro (d | d); exact b d; exact c d⟩
/-- Two pools are one. -/
theorem St.pool_join {H H' : List (Value × List Int)} (h : St S w0 w (Pool H :: Pool H' :: l)) : St S w0 w (Pool (H ++ H') :: l) := by
  refine ⟨h.kept, ?_⟩
  obtain ⟨S1, h1, h2, S2, h3, h4, h5⟩ := h.sep
  refine ⟨fun k => S1 k ∨ S2 k, ⟨?_, ?_⟩, ?_, h5.mono ?_⟩
  · intro x hx
    rcases List.mem_append.1 hx with hx | hx
    · obtain ⟨k1, k2⟩ := h1.1 x hx
      exact ⟨k1, fun hl => by obtain ⟨b, o, n, c, k3, k4⟩ := k2 hl; exact ⟨b, o, n, c, k3, .inl k4⟩⟩
    · obtain ⟨k1, k2⟩ := h3.1 x hx
      exact ⟨k1, fun hl => by obtain ⟨b, o, n, c, k3, k4⟩ := k2 hl; exact ⟨b, o, n, c, k3, .inr k4⟩⟩
  · rintro k (hk | hk)
    · exact h1.2 k hk
    · exact h3.2 k hk
  · rintro k (hk | hk)
    · exact h2 k hk
    · exact (h4 k hk).1
  · rintro k _ ⟨⟨a, b⟩, c⟩
    exact ⟨a, by rintro (d | d); exact b d; exact c d⟩
end

/-- Panes that can be read, with their top ones. -/
def PnsRO (w : World) (v : Value) (l : List Pn) : Prop := ∃ ms : List Pm, ms.map (·.p) = l ∧ encP.RO w v ms ∧ ∀ m ∈ ms, IntsRO w m.hd m.p.g.top
theorem PnsRO.later {w w' : World} {v : Value} {l : List Pn} (hv : PnsRO w v l) (hk : Kept (fun _ => False) w w') : PnsRO w' v l := by
  obtain ⟨ms, h1, h2, h3⟩ := hv
  exact ⟨ms, h1, h2.later hk, fun m hm => (h3 m hm).later hk⟩
def OtsRO (w : World) (v : Value) (l : List Ot) : Prop := ∃ ms : List Om, ms.map (·.o) = l ∧ encO.RO w v ms ∧ ∀ m ∈ ms, IntsRO w m.hd m.o.value
theorem OtsRO.later {w w' : World} {v : Value} {l : List Ot} (hv : OtsRO w v l) (hk : Kept (fun _ => False) w w') : OtsRO w' v l := by
  obtain ⟨ms, h1, h2, h3⟩ := hv
  exact ⟨ms, h1, h2.later hk, fun m hm => (h3 m hm).later hk⟩
theorem PnsRO.nil (w : World) : PnsRO w (.slice none 0 0) [] := ⟨[], rfl, Enc.RO.nil w, fun _ h => by simp at h⟩
theorem OtsRO.nil (w : World) : OtsRO w (.slice none 0 0) [] := ⟨[], rfl, Enc.RO.nil w, fun _ h => by simp at h⟩
/-- The panes of a call's own can be read. -/
theorem St.pnsRO {S : Nat → Prop} {w0 w : World} {L : List SP} (h : St S w0 w L) (i j : Nat) {t : TypeId} {v : Value} {ms : List Pm} {H : List (Value × List Int)} (hi : L[i]? = some (Row t 8 v ms.length (encP.all ms))) (hj : L[j]? = some (Pool H)) (hm : ∀ m ∈ ms, m.own ∈ H) : PnsRO w v (ms.map (·.p)) :=
  ⟨ms, rfl, Enc.own encP (h.row i hi) rfl, fun m hx => h.pool_get j hj (hm m hx)⟩
theorem St.otsRO {S : Nat → Prop} {w0 w : World} {L : List SP} (h : St S w0 w L) (i j : Nat) {t : TypeId} {v : Value} {ms : List Om} {H : List (Value × List Int)} (hi : L[i]? = some (Row t 10 v ms.length (encO.all ms))) (hj : L[j]? = some (Pool H)) (hm : ∀ m ∈ ms, m.own ∈ H) : OtsRO w v (ms.map (·.o)) :=
  ⟨ms, rfl, Enc.own encO (h.row i hi) rfl, fun m hx => h.pool_get j hj (hm m hx)⟩

end Go.Proofs.YtiglgfonhdfpmaaGreat

/- append of noughts (append(x, make(..)..)) onto a row of the call's own, of one cell an element. Laws over any program. -/
set_option linter.unusedVariables false
set_option linter.unusedSimpArgs false
namespace Go.Proofs.YtiglgfonhdfpmaaGreat
open Go.RowKit

theorem zeroCells_one (z : Value) (hz : z.cells = #[z]) (n : Nat) : (Builtin.zeroCells z.cells n).toList = List.replicate n z := by
  rw [hz]
  refine List.ext_getElem? fun i => ?_
  simp only [Builtin.zeroCells, List.size_toArray, List.length_singleton, Nat.mul_one, Array.toList_map, Array.toList_range, List.getElem?_map, Nat.mod_one]
  by_cases h : i < n
  · simp [h]
  · simp [h]
section
variable {P : Program} {S : Nat → Prop} {w0 w : World} {l L : List SP}
/-- append of noughts behind a row's beginning, more than its capacity: a new row. -/
theorem run_zeros_grow (w : World) (t tn ty e : TypeId) (i : TypeInfo) (z : Value) (kn : IntKind) (ht : P.underlying t = some (.slice e)) (htn : P.underlying tn = some (.int kn)) (hi : P.info? e = some i) (hz : i.zero = some z)
    (k m cap : Nat) (g : Nat) (vs : List Value) (hv : vs.length = k * i.size) (hsrc : ∀ j v, vs[j]? = some v → w.cell? ⟨g, j, none⟩ = some v) (h0 : 0 < m) (hs : 0 < i.size) (hcap : cap < k + m) (h63 : k + m ≤ 9223372036854775807) (h48 : ((k + m) + (k + m) / 4 + 192) * i.bytes ≤ 281474976710656) :
    (Builtin.append_ #[t, tn] ty #[.slice (some ⟨g, 0, none⟩) k cap, .int .i64 m]).run P w =
      .ok (.slice (some ⟨w.heap.size, 0, none⟩) (k + m) (grownCap w (k + m) cap e)) (w.drew.alloc (.cells (vs.toArray ++ Builtin.zeroCells z.cells m ++ Builtin.zeroCells z.cells (grownCap w (k + m) cap e - (k + m))) e)) := by
  have hw : IntKind.i64.wrap (m : Int) = m := by rw [IntKind.wrap_i64]; omega
  have h48' : ¬ (281474976710656 < Builtin.nextslicecap (k + m) cap * i.bytes) := by have := growslice_fits_wide (bytes := i.bytes) hcap h48; omega
  have hmb : m * i.bytes ≤ 281474976710656 := Nat.le_trans (Nat.mul_le_mul_right _ (by omega)) h48
  have h48i : ¬ (281474976710656 < (m : Int) * (i.bytes : Int)) := by
    rw [← Int.natCast_mul]
    omega
  have hneg : ¬ ((m : Int) < 0) := by omega
  have hns : ¬ (m * i.size = 0) := Nat.mul_ne_zero (by omega) (by omega)
  have hc2 : ¬ (k + m ≤ cap) := by omega
  have h63' : ¬ (9223372036854775807 < (k : Int) + (m : Int)) := by omega
  have hl := run_loadCells_list (P := P) w.drew ⟨g, 0, none⟩ vs (fun j v hj => by rw [Addr.add_lit, Nat.zero_add]; exact hsrc j v hj)
  rw [hv] at hl
  simp [Builtin.append_, run_underlying ht, run_underlying htn, sizeOf, typeInfo, zeroValue, hi, hz, asInt, asIntOf, hw, hneg, hns, h63', h48', h48i, hc2, Question.forced, Builtin.firstCells, hl, newRow, grownCap]
/-- A row in a block that holds more. -/
theorem St.blkRow' {g : Nat} {cs : Array Value} {e : TypeId} (H : St S w0 w (Blk g cs e :: L)) {n c size : Nat} (xs : List Value) (hn : xs.length = n * size) (hc : cs.size = c * size) (hnc : n ≤ c) (hm : c ≤ maxLen) (hx : cs.toList.take (n * size) = xs) :
    St S w0 w (Row e size (.slice (some ⟨g, 0, none⟩) n c) n xs :: L) := by
  obtain ⟨h, S1, h1, h2, h3⟩ := H
  refine ⟨h, S1, ⟨⟨hn, .inr ⟨g, c, cs, rfl, Nat.zero_le _, h1.1, hnc, hm, hc, hx⟩⟩, fun k => ?_⟩, h2, h3⟩
  rw [h1.2 k]
  simp [Value.ownBlock, eq_comm]
/-- append of m noughts. -/
theorem St.run_zeros {e : TypeId} {v : Value} {n m : Nat} {xs : List Value} (H : St S w0 w (Row e 1 v n xs :: L)) {t tn ty : TypeId} {kn : IntKind} {z : Value} {bytes : Nat} (ht : P.underlying t = some (.slice e)) (htn : P.underlying tn = some (.int kn))
    (hinfo : (P.info? e).map (fun i => (i.zero, i.size, i.bytes)) = some (some z, 1, bytes)) (hz1 : z.cells = #[z]) (ho : z.oneCell' = true) (h0 : 0 < m) (h48 : ((n + m) + (n + m) / 4 + 192) * bytes ≤ 281474976710656) (hb : 0 < bytes) :
    ∃ v' w', (Builtin.append_ #[t, tn] ty #[v, .int .i64 m]).run P w = .ok v' w' ∧ St S w0 w' (Row e 1 v' (n + m) (xs ++ List.replicate m z) :: L) ∧ w.heap.size ≤ w'.heap.size := by
  obtain ⟨ti, hti, hz, hsz, hby⟩ := info_parts hinfo
  subst hby
  have hle : n + m ≤ 281474976710656 := by have := Nat.le_mul_of_pos_right ((n + m) + (n + m) / 4 + 192) hb; omega
  have hro := H.row 0 rfl
  have hxl := hro.1
  have H0 : St S w0 w L := H.tail
  rcases hro.2 with ⟨rfl, rfl⟩ | ⟨g, cap, cur, rfl, _, hg, hnc, hcm, hcs, htake⟩
  · obtain rfl : xs = [] := List.eq_nil_of_length_eq_zero (by simpa using hxl)
    have h1 : m * ti.bytes ≤ 281474976710656 := Nat.le_trans (Nat.mul_le_mul_right _ (by omega)) h48
    have hr := Lib.run_append_nil_zeros (P := P) w t tn ty e ti z .i64 kn ht htn hti hz m h0 (by omega) (by omega) h1
    have hge := grownCap_ge w m 0 e
    have hcm : grownCap w m 0 e ≤ maxLen := grownCap_le_maxLen w m 0 e (by unfold maxLen; omega)
    rw [Nat.zero_add]
    refine ⟨_, _, hr, ?_, by simp⟩
    refine St.blkRow' (H0.drew.alloc _ e) _ (by simp) ?_ hge hcm ?_
    · simp only [Array.size_append, size_zeroCells, hz1, List.size_toArray, List.length_singleton]
      omega
    · rw [Array.toList_append, zeroCells_one z hz1, zeroCells_one z hz1]
      simp
  · have hrb : (Blk g cur e).on w (fun k => (Value.slice (some ⟨g, 0, none⟩) n cap).ownBlock = some k) := ⟨hg, fun k => by simp [Value.ownBlock, eq_comm]⟩
    have HB : St S w0 w (Blk g cur.toList.toArray e :: L) := by
      obtain ⟨hk, S1, h1, h2, h3⟩ := H
      exact ⟨hk, S1, ⟨by simpa using hg, fun k => (h1.2 k).trans (by simp [Value.ownBlock, eq_comm])⟩, h2, h3⟩
    have hcl : cur.toList.length = cap := by simpa using hcs
    by_cases hroom : n + m ≤ cap
    · have hfit : n + (List.replicate m z).length ≤ cur.toList.length := by simp; omega
      have hmay := mayCells_there (mayCells_blk hg (o := n) (n := m) (by omega))
      have hst := run_storeCells_cells (P := P) g n (List.replicate m z) 0 w (fun j hj => by simpa using (hmay j (by simpa using hj)).1) (fun j hj => by simpa using (hmay j (by simpa using hj)).2) (fun u hu => by rw [(List.mem_replicate.1 hu).2]; exact ho)
      simp only [Nat.add_zero] at hst
      have hw : IntKind.i64.wrap (m : Int) = m := by rw [IntKind.wrap_i64]; omega
      have hneg : ¬ ((m : Int) < 0) := by omega
      have hns : ¬ (m = 0) := by omega
      have h48i : ¬ (281474976710656 < (m : Int) * (ti.bytes : Int)) := by
        have := Nat.le_trans (Nat.mul_le_mul_right ti.bytes (show m ≤ (n + m) + (n + m) / 4 + 192 by omega)) h48
        rw [← Int.natCast_mul]
        omega
      have hzl := zeroCells_one z hz1 m
      have hr : (Builtin.append_ #[t, tn] ty #[.slice (some ⟨g, 0, none⟩) n cap, .int .i64 m]).run P w = .ok (.slice (some ⟨g, 0, none⟩) (n + m) cap) (w.setCells g n (List.replicate m z)) := by
        have hst2 : (storeCells ⟨g, n, none⟩ (List.replicate m z)).run P w = .ok () (w.setCells g n (List.replicate m z)) := hst
        simp [Builtin.append_, run_underlying ht, run_underlying htn, sizeOf, typeInfo, zeroValue, hti, hz, asInt, asIntOf, hw, hneg, hns, h48i, hroom, hsz, Addr.add_lit, hzl, hst2]
      have H2 := St.setCells 0 (List.replicate m z) n cur.toList w _ HB rfl hfit
      refine ⟨_, _, hr, ?_, by rw [setCells_size']; exact Nat.le_refl _⟩
      refine St.blkRow' H2 _ (by rw [List.length_append, hxl]; simp) (by simp [splice_len _ _ _ hfit, hcs]) hroom hcm ?_
      refine List.ext_getElem? fun j => ?_
      rw [Nat.mul_one, List.getElem?_take]
      simp only [List.getElem?_append]
      have hg2 := splice_get cur.toList n (List.replicate m z) hfit j
      rw [Nat.mul_one] at htake hxl
      rw [List.length_replicate] at hg2
      by_cases h1 : j < n
      · rw [if_pos (by omega), if_pos (by omega), hg2, if_pos h1, ← htake, List.getElem?_take_of_lt h1]
      · rw [if_neg (show ¬ j < xs.length by omega)]
        by_cases h2 : j < n + m
        · rw [if_pos h2, hg2, if_neg h1, if_pos h2, hxl]
        · rw [if_neg h2, List.getElem?_eq_none (by simp; omega)]
    · have hr := run_zeros_grow (P := P) w t tn ty e ti z kn ht htn hti hz n m cap g xs (by rw [hsz]; exact hxl) (fun j u hj => own_cell hro hj) h0 (by omega) (by omega) (by omega) h48
      have hge := grownCap_ge w (n + m) cap e
      have hcm : grownCap w (n + m) cap e ≤ maxLen := grownCap_le_maxLen w (n + m) cap e (by unfold maxLen; omega)
      refine ⟨_, _, hr, ?_, by simp⟩
      refine St.blkRow' (H0.drew.alloc _ e) _ (by rw [List.length_append, hxl]; simp) ?_ hge hcm ?_
      · simp only [Array.size_append, size_zeroCells, hz1, List.size_toArray, List.length_singleton]
        omega
      · rw [Array.toList_append, Array.toList_append, zeroCells_one z hz1, zeroCells_one z hz1]
        rw [List.take_append_of_le_length (by simp; omega), List.take_of_length_le (by simp; omega)]
/-- append of noughts at a plain region's operation. -/
theorem St.list_zeros1 {e : TypeId} {v : Value} {n m : Nat} {xs : List Value} (H : St S w0 w (Row e 1 v n xs :: L)) {ops : Array Oper} {rest : List Oper} {o : Oper} {a : Act} {Q : Exit → Act → World → Prop} (hgd : o.guard = none) (x y : Operand) (t tn : TypeId)
    (hop : o.op = .call { callee := .builtin .append, args := #[x, y], argTypes := #[t, tn] }) {kn : IntKind} {z : Value} {bytes : Nat} (ht : P.underlying t = some (.slice e)) (htn : P.underlying tn = some (.int kn))
    (hinfo : (P.info? e).map (fun i => (i.zero, i.size, i.bytes)) = some (some z, 1, bytes)) (hz1 : z.cells = #[z]) (ho : z.oneCell' = true) (h48 : ((n + m) + (n + m) / 4 + 192) * bytes ≤ 281474976710656) (hb : 0 < bytes)
    (hx : a.eval x = v) (hy : a.eval y = .int .i64 m)
    (h : ∀ v' w', St S w0 w' (Row e 1 v' (n + m) (xs ++ List.replicate m z) :: L) → w.heap.size ≤ w'.heap.size → wpList P ops Q rest (a.put o.dst v') w') :
    wpList P ops Q (o :: rest) a w := by
  have key : ∃ v' w', (Builtin.append_ #[t, tn] o.type #[v, .int .i64 m]).run P w = .ok v' w' ∧ St S w0 w' (Row e 1 v' (n + m) (xs ++ List.replicate m z) :: L) ∧ w.heap.size ≤ w'.heap.size := by
    by_cases h0 : 0 < m
    · exact H.run_zeros ht htn hinfo hz1 ho h0 h48 hb
    · obtain rfl : m = 0 := by omega
      obtain ⟨ti, hti, hz, hsz, hby⟩ := info_parts hinfo
      obtain ⟨ao, cap, rfl, hle, _⟩ := slice_form' (H.row 0 rfl)
      have hw : IntKind.i64.wrap 0 = 0 := by rw [IntKind.wrap_i64]; omega
      refine ⟨.slice ao n cap, w, ?_, by simpa using H, Nat.le_refl _⟩
      have hn : ¬ ((0 : Int) < 0) := by omega
      cases ao <;> simp [Builtin.append_, run_underlying ht, run_underlying htn, sizeOf, typeInfo, hti, asInt, asIntOf, hw, hle, storeCells]
  obtain ⟨v', w', hr, h2, h3⟩ := key
  refine wpList_plain hgd fun _ hK => ?_
  unfold Oper.wp execOp
  simp only [hop, resolve, invoke, builtin, Sem.run_bind, Sem.run_pure, Result.andThen_ok, List.map_toArray, List.map_cons, List.map_nil, hx, hy, hr]
  exact hK _ _ (h v' w' h2 h3)
end

end Go.Proofs.YtiglgfonhdfpmaaGreat

/- slices.Grow and slices.Concat at ints. -/
set_option linter.unusedVariables false
set_option linter.unusedSimpArgs false
namespace Go.Proofs.YtiglgfonhdfpmaaGreat
open Go.RowKit

theorem St.row_cut {S : Nat → Prop} {w0 w : World} {l : List SP} (h : St S w0 w l) (i : Nat) {e : TypeId} {size : Nat} {g n cap k : Nat} {xs : List Value} (hi : l[i]? = some (Row e size (.slice (some ⟨g, 0, none⟩) n cap) n xs)) (hn : n ≠ 0) (hk : k ≤ n) :
    St S w0 w (l.set i (Row e size (.slice (some ⟨g, 0, none⟩) k cap) k (xs.take (k * size)))) := by
  obtain ⟨g', cap', R, hv, hnc, hcm, hxl, hcs, HB⟩ := h.row_blk i hi hn
  simp only [Value.slice.injEq, Option.some.injEq, Addr.mk.injEq, and_true, true_and] at hv
  obtain ⟨rfl, rfl⟩ := hv
  have hl : i < l.length := by
    rcases Nat.lt_or_ge i l.length with h | h
    · exact h
    · rw [List.getElem?_eq_none h] at hi; cases hi
  have hm := Nat.mul_le_mul_right size hk
  have := HB.blk_row i (e := e) (size := size) (cap := cap) (n := k) (cs := xs ++ R) (xs := xs.take (k * size)) (by rw [List.getElem?_set_self hl]) (by omega) hcm hcs (by rw [List.take_append_of_le_length (by omega)])
  rwa [List.set_set] at this
set_option maxHeartbeats 1000000 in
set_option maxRecDepth 100000 in
theorem ints_grow {n : Nat} (hn : n ≤ 1073741824) (w : World) : Calls Tryz.prog 306 #[.slice none 0 0, .int .i64 n] w fun e w' => ∃ v', e = .returned v' ∧ St (fun _ => False) w w' [Row 3 1 v' 0 []] := by
  have H0 : St (fun _ => False) w w [Row 3 1 (.slice none 0 0) 0 []] := (St.nil (fun _ => False) w).row_nil 3 1
  have z1 : decide ((n : Int) < 0) = false := by simp
  by_cases h : 0 < n
  · have z2 : decide ((0 : Int) < n) = true := by simpa using h
    go_enter Tryz.func306, Tryz.ntmps306
    go_wp2_with (at_builtin; go_must (refine St.list_zeros1 (m := n) (z := .int .i64 0) H0 rfl (.tmp 20) (.tmp 21) 33 3 rfl Tryz.underlying33 Tryz.underlying3 Tryz.info3 rfl rfl (by omega) (by omega) rfl rfl ?_; intro v2 w2 H2 hz; obtain ⟨g2, c2, rfl⟩ : ∃ g c, v2 = .slice (some ⟨g, 0, none⟩) (0 + n) c := (by obtain ⟨g, cap, R, hv, _⟩ := H2.row_blk 0 rfl (by omega); exact ⟨g, cap, hv⟩)))
    go_ret
    exact ⟨_, rfl, by simpa using H2.row_cut 0 (k := 0) rfl (by omega) (by omega)⟩
  · obtain rfl : n = 0 := by omega
    go_enter Tryz.func306, Tryz.ntmps306
    go_wp2
    go_ret
    exact ⟨_, rfl, H0⟩

theorem IntsRO.news {w w1 : World} {ad : Option Addr} {n cap : Nat} {l : List Int} (h : IntsRO w (.slice ad n cap) l) (hk : Kept (fun _ => False) w w1) : n = l.length ∧ (ad = none → n = 0) ∧ ∀ p, ad = some p → ∀ j u, (intCells l)[j]? = some u → w1.cell? (p.add j) = some u := by
  have h := h.later hk
  obtain ⟨ad', cap', e, h1, h2, h3⟩ := h
  simp only [Value.slice.injEq] at e
  obtain ⟨rfl, rfl, rfl⟩ := e
  refine ⟨rfl, fun e => ?_, fun p hp j u hj => ?_⟩
  · by_cases h0 : l = []
    · rw [h0]; rfl
    · obtain ⟨b, o, e2, _⟩ := h3 h0
      rw [e] at e2
      cases e2
  · have hjl : j < l.length := by have := (List.getElem?_eq_some_iff.1 hj).1; simpa [intCells] using this
    obtain ⟨b, o, e2, hb, hc⟩ := h3 (by rintro rfl; simp at hjl)
    rw [hp] at e2
    cases e2
    have := hc j l[j] (List.getElem?_eq_getElem hjl)
    have e2 : u = .int .i64 l[j] := by
      have : (intCells l)[j]? = some (.int .i64 l[j]) := by simp [intCells, hjl]
      rw [hj] at this
      exact Option.some.inj this
    rw [e2, Addr.add_mid, this]
theorem intCells_append (a b : List Int) : intCells (a ++ b) = intCells a ++ intCells b := by simp [intCells]
set_option maxHeartbeats 4000000 in
set_option maxRecDepth 100000 in
theorem ints_concat {h1 h2 : Value} {a b : List Int} {g : Nat} (w : World) (hg : g < w.heap.size) (x0 : w.cell? ⟨g, 0, none⟩ = some h1) (x1 : w.cell? ⟨g, 1, none⟩ = some h2) (ha : IntsRO w h1 a) (hb : IntsRO w h2 b) (hl : a.length + b.length ≤ 1073741824) :
    Calls Tryz.prog 286 #[.slice (some ⟨g, 0, none⟩) 2 2] w fun e w' => ∃ v', e = .returned v' ∧ St (fun _ => False) w w' [Row 3 1 v' (a.length + b.length) (intCells (a ++ b))] := by
  have ha0 := ha
  have hb0 := hb
  obtain ⟨a1, c1, rfl, -⟩ := ha
  obtain ⟨a2, c2, rfl, -⟩ := hb
  obtain ⟨T, hT⟩ : ∃ T, a.length + b.length = T := ⟨_, rfl⟩
  have hTi : (a.length : Int) + (b.length : Int) = (T : Int) := by omega
  have kg := fun w' => ints_grow (n := T) (by omega) w'
  have n1 : IntKind.i64.wrap (a.length : Int) = a.length := by rw [IntKind.wrap_i64]; omega
  have n2 : IntKind.i64.wrap (T : Int) = T := by rw [IntKind.wrap_i64]; omega
  have n3 : decide ((a.length : Int) < 0) = false := by simp
  have n4 : decide ((T : Int) < 0) = false := by simp
  have hcat := intCells_append a b
  have o1 := one_ints a
  have o2 := one_ints b
  have l1 : (intCells a).length = a.length * 1 := by simp [intCells]
  have l2 : (intCells b).length = b.length * 1 := by simp [intCells]
  go_enter Tryz.func286, Tryz.ntmps286
  go_upto_block 1 with (fail)
  go_loopw [3, 11] (fun s j wr => ((j = .int .i64 0 ∧ s = .int .i64 0) ∨ (j = .int .i64 1 ∧ s = .int .i64 a.length) ∨ (j = .int .i64 2 ∧ s = .int .i64 T)) ∧ wr = w) (fun _ j _ => 2 - (intOf j).toNat)
  case atStart => exact ⟨.inl ⟨rfl, rfl⟩, rfl⟩
  case round =>
    obtain ⟨⟨rfl, rfl⟩ | ⟨rfl, rfl⟩ | ⟨rfl, rfl⟩, rfl⟩ := hrel
    · go_wp2
      go_roundw
      case rel => exact ⟨.inr (.inl ⟨by first | rfl | go_num, by first | rfl | go_num⟩), by first | rfl | trivial⟩
      case measure => simp [intOf]
    · go_wp2
      go_roundw
      case rel => exact ⟨.inr (.inr ⟨by first | rfl | go_num, by first | rfl | go_num⟩), by first | rfl | trivial⟩
      case measure => simp [intOf]
    · obtain ⟨wn, hwn⟩ : ∃ wn, wn = wr := ⟨_, rfl⟩
      subst hwn
      go_upto_block 3 with (go_at_call 306; go_must (refine (kg _).mono ?_; rintro e w2 ⟨v2, rfl, H2⟩))
      go_loopw [6, 27] (fun u j wz => ∃ (k : Nat) (xs : List Int), ((j = .int .i64 0 ∧ k = 0 ∧ xs = []) ∨ (j = .int .i64 1 ∧ k = a.length ∧ xs = a) ∨ (j = .int .i64 2 ∧ k = T ∧ xs = a ++ b)) ∧ St (fun _ => False) wn wz [Row 3 1 u k (intCells xs)]) (fun _ j _ => 2 - (intOf j).toNat)
      case atStart => exact ⟨0, [], .inl ⟨rfl, rfl, rfl⟩, H2⟩
      case round =>
        clear H2
        obtain ⟨k, xs, ⟨rfl, rfl, rfl⟩ | ⟨rfl, rfl, rfl⟩ | ⟨rfl, rfl, rfl⟩, HM⟩ := hrel
        · have y0 := (World.cell?_of_block (w := wn) (a := ⟨g, 0, none⟩) (HM.kept.block g hg id)).trans x0
          obtain ⟨-, hA, hnews⟩ := ha0.news HM.kept
          have hbb : (0 + a.length) * 8 ≤ 140737488355328 := by omega
          clear hcat
          go_wp2_with (at_builtin; go_must (refine St.list_add HM 0 rfl rfl (.tmp 31) (.tmp 32) 33 rfl Tryz.underlying33 Tryz.info3 (by decide) rfl (intCells a) rfl l1 hA hnews o1 hbb ?_; intro v' w1 H1 hz))
          go_roundw
          case rel => exact ⟨a.length, a, .inr (.inl ⟨by first | rfl | go_num, rfl, rfl⟩), by simpa [intCells] using H1⟩
          case measure => simp [intOf]
        · have y0 := (World.cell?_of_block (w := wn) (a := ⟨g, 1, none⟩) (HM.kept.block g hg id)).trans x1
          obtain ⟨-, hA, hnews⟩ := hb0.news HM.kept
          have hbb : (xs.length + b.length) * 8 ≤ 140737488355328 := by omega
          have hch := Lib.hid hcat
          have hTh := Lib.hid hT
          clear hcat hT
          go_wp2_with (at_builtin; go_must (refine St.list_add HM 0 rfl rfl (.tmp 31) (.tmp 32) 33 rfl Tryz.underlying33 Tryz.info3 (by decide) rfl (intCells b) rfl l2 hA hnews o2 hbb ?_; intro v' w1 H1 hz))
          go_roundw
          case rel =>
            refine ⟨T, xs ++ b, .inr (.inr ⟨by first | rfl | go_num, rfl, rfl⟩), ?_⟩
            rw [hch.out, ← hTh.out]
            exact H1
          case measure => simp [intOf]
        · go_wp2
          go_ret
          refine ⟨_, rfl, ?_⟩
          rw [hT]
          exact HM
end Go.Proofs.YtiglgfonhdfpmaaGreat

/- slices.Clone at panes, the operator's copied and windows. Condition: so many. -/
set_option linter.unusedVariables false
set_option linter.unusedSimpArgs false
namespace Go.Proofs.YtiglgfonhdfpmaaGreat
open Go.RowKit

abbrev pnZ : Value := .agg #[.string ⟨#[]⟩, .int .i64 0, .int .i64 0, .int .i64 0, .int .i64 0, .slice none 0 0, .complex .f64 0 0, .int .i64 0]
theorem Tryz.info68 : (Tryz.prog.info? 68).map (fun i => (i.zero, i.size, i.bytes)) = some (some pnZ, 8, 96) := by kernel_rfl
set_option maxHeartbeats 1000000 in
set_option maxRecDepth 100000 in
theorem pns_clone {v : Value} {l : List Pm} {w : World} (hv : encP.RO w v l) (hl : l.length ≤ 1073741824) :
    Calls Tryz.prog 125 #[v] w fun e w' => ∃ v', e = .returned v' ∧ St (fun _ => False) w w' [Row 68 8 v' l.length (encP.all l)] := by
  obtain ⟨ad, cap, rfl, h0, hcell⟩ := hv.cells
  cases ad with
  | none =>
    obtain rfl := h0 rfl
    have hq := fun w => Lib.run_eql_slice_nil (P := Tryz.prog) w 43 68 none 0 cap 0 0 Tryz.underlying43
    go_enter Tryz.func125, Tryz.ntmps125
    go_wp2
    go_ret
    exact ⟨_, rfl, (St.nil _ w).row_nil 68 8⟩
  | some a =>
    have hnew : St (fun _ => False) w (w.alloc (.cells #[] 68)) [Row 68 8 (.slice (some ⟨w.heap.size, 0, none⟩) 0 0) 0 []] := by
      refine ⟨(Kept.refl _ _).alloc _, fun k => k = w.heap.size, ⟨?_, fun k => by simp [Value.ownBlock, eq_comm]⟩, fun k h => .inr (by omega), trivial⟩
      exact World.ownsRow_lit w #[] 0 (Nat.zero_le _) (by simp [maxLen]) rfl
    have hnews : ∀ p, some a = some p → ∀ j u, (encP.all l)[j]? = some u → (w.alloc (.cells #[] 68)).cell? (p.add j) = some u := fun p hp j u hj => Lib.cell?_alloc_some _ (hcell p hp j u hj)
    have hlen := encP.all_len l
    have hb : (0 + l.length) * 96 ≤ 140737488355328 := by omega
    have h1 := encP.all_one1 l
    clear hcell h0
    have hq := fun w => Lib.run_eql_slice_nil (P := Tryz.prog) w 43 68 (some a) l.length cap 0 0 Tryz.underlying43
    go_enter Tryz.func125, Tryz.ntmps125
    go_wp2_with (at_builtin; go_must (refine St.list_add hnew 0 rfl rfl (.tmp 5) (.tmp 6) 43 rfl Tryz.underlying43 Tryz.info68 (by decide) rfl (encP.all l) rfl hlen (by intro h; cases h) hnews h1 hb ?_; intro v' w1 H1 hz))
    go_ret
    exact ⟨v', rfl, by simpa using H1⟩

theorem ints_lim {w : World} {v : Value} {l : List Int} (h : IntsRO w v l) : ∀ x ∈ l, -9223372036854775808 ≤ x ∧ x ≤ 9223372036854775807 := by
  obtain ⟨_, _, _, _, h, _⟩ := h
  exact h
theorem set_app3 {α : Type} (A B C : List α) (j : Nat) (v : α) (hj : j < B.length) : (A ++ (B ++ C)).set (A.length + j) v = A ++ (B.set j v ++ C) := by
  rw [List.set_append_right _ _ (by omega), Nat.add_sub_cancel_left, List.set_append_left _ _ hj]
theorem Enc.set1 {α : Type} (E : Enc α) {l : List α} {R : List Value} {i j : Nat} {x x' : α} {v : Value} (hi : l[i]? = some x) (hj : j < E.k) (hx : E.cells x' = (E.cells x).set j v) : (E.all l ++ R).toArray.setIfInBounds (i * E.k + j) v = (E.all (l.set i x') ++ R).toArray := by
  have hlt := (List.getElem?_eq_some_iff.1 hi).1
  have e0 : l = l.take i ++ x :: l.drop (i + 1) := by
    have := (List.getElem?_eq_some_iff.1 hi).2
    rw [← this, List.getElem_cons_drop, List.take_append_drop]
  have e1 : E.all l = E.all (l.take i) ++ (E.cells x ++ E.all (l.drop (i + 1))) := by
    rw [← E.all_cons, ← E.all_app, ← e0]
  have e2 : E.all (l.set i x') = E.all (l.take i) ++ (E.cells x' ++ E.all (l.drop (i + 1))) := by
    rw [← E.all_cons, ← E.all_app, List.set_eq_take_append_cons_drop, if_pos hlt]
  have e3 : (E.all (l.take i)).length = i * E.k := by rw [E.all_len, List.length_take, Nat.min_eq_left (by omega)]
  rw [List.setIfInBounds_toArray, e1, e2, hx, List.append_assoc, List.append_assoc, ← e3, set_app3 _ _ _ _ _ (by rw [E.len]; exact hj)]
  simp [List.append_assoc]
theorem drop_cons_of {α : Type} {l : List α} {i : Nat} {x : α} (h : l[i]? = some x) : l.drop i = x :: l.drop (i + 1) := by
  have := (List.getElem?_eq_some_iff.1 h)
  rw [← this.2, List.getElem_cons_drop]
/-- The cells of a pane that can be read. -/
theorem pn_cells {w w' : World} {b o i : Nat} {x : Pm} (h : w.rangeAt b (o + i * 8) (pnC x).toList) (hb : w'.heap[b]? = w.heap[b]?) :
    w'.cell? ⟨b, o + i * 8, none⟩ = some (textV x.p.w.key) ∧ w'.cell? ⟨b, o + i * 8 + 1, none⟩ = some (.int .i64 x.p.w.frm) ∧ w'.cell? ⟨b, o + i * 8 + 2, none⟩ = some (.int .i64 x.p.w.to) ∧ w'.cell? ⟨b, o + i * 8 + 3, none⟩ = some (.int .i64 x.p.g.n) ∧
    w'.cell? ⟨b, o + i * 8 + 4, none⟩ = some (.int .i64 x.p.g.a) ∧ w'.cell? ⟨b, o + i * 8 + 5, none⟩ = some x.hd ∧ w'.cell? ⟨b, o + i * 8 + 6, none⟩ = some (.complex .f64 (ib x.p.g.x) (ib x.p.g.y)) ∧ w'.cell? ⟨b, o + i * 8 + 7, none⟩ = some (.int .i64 x.p.round) :=
  ⟨Enc.at (E := encP) h hb (j := 0) rfl, Enc.at (E := encP) h hb (j := 1) rfl, Enc.at (E := encP) h hb (j := 2) rfl, Enc.at (E := encP) h hb (j := 3) rfl, Enc.at (E := encP) h hb (j := 4) rfl, Enc.at (E := encP) h hb (j := 5) rfl, Enc.at (E := encP) h hb (j := 6) rfl, Enc.at (E := encP) h hb (j := 7) rfl⟩
/-- The cells of a pane of a block. -/
theorem pn_blk {w : World} {g : Nat} {L : List Pm} {R : List Value} {t : TypeId} (h : w.heap[g]? = some (.cells (encP.all L ++ R).toArray t (0, 0))) {i : Nat} {x : Pm} (hx : L[i]? = some x) :
    w.cell? ⟨g, i * 8, none⟩ = some (textV x.p.w.key) ∧ w.cell? ⟨g, i * 8 + 1, none⟩ = some (.int .i64 x.p.w.frm) ∧ w.cell? ⟨g, i * 8 + 2, none⟩ = some (.int .i64 x.p.w.to) ∧ w.cell? ⟨g, i * 8 + 3, none⟩ = some (.int .i64 x.p.g.n) ∧
    w.cell? ⟨g, i * 8 + 4, none⟩ = some (.int .i64 x.p.g.a) ∧ w.cell? ⟨g, i * 8 + 5, none⟩ = some x.hd ∧ w.cell? ⟨g, i * 8 + 6, none⟩ = some (.complex .f64 (ib x.p.g.x) (ib x.p.g.y)) ∧ w.cell? ⟨g, i * 8 + 7, none⟩ = some (.int .i64 x.p.round) := by
  have key : ∀ c v, (pnC x).toList[c]? = some v → w.cell? ⟨g, i * 8 + c, none⟩ = some v := fun c v hv => by
    have h2 := encP.get hx (show (encP.cells x)[c]? = some v from hv)
    have hlt := (List.getElem?_eq_some_iff.1 h2).1
    refine cell_blk' h ?_
    rw [List.getElem?_toArray, List.getElem?_append_left (show i * 8 + c < _ from hlt)]
    exact h2
  exact ⟨key 0 _ rfl, key 1 _ rfl, key 2 _ rfl, key 3 _ rfl, key 4 _ rfl, key 5 _ rfl, key 6 _ rfl, key 7 _ rfl⟩

set_option maxHeartbeats 4000000 in
set_option maxRecDepth 100000 in
theorem oper_copied {v : Value} {l : List Pn} {w : World} (hv : PnsRO w v l) (hl : l.length ≤ 1073741824) (ht : ∀ p ∈ l, p.g.top.length ≤ 1073741824) :
    Calls Tryz.prog 65 #[v] w fun e w' => ∃ v' ms, e = .returned v' ∧ ms.map (·.p) = l ∧ St (fun _ => False) w w' [Row 68 8 v' ms.length (encP.all ms), Pool (ms.map Pm.own)] := by
  obtain ⟨ms, rfl, hv, hro⟩ := hv
  rw [List.length_map] at hl
  have kcl := pns_clone hv hl
  have hroh := Lib.hid hro
  have hth := Lib.hid (fun m (hm : m ∈ ms) => ht m.p (List.mem_map.2 ⟨m, hm, rfl⟩))
  obtain ⟨ad0, cap0, rfl, -, -⟩ := hv
  clear ht hro
  go_enter Tryz.func65, Tryz.ntmps65
  go_upto_block 1 with (go_at_call 125; go_must (refine kcl.mono ?_; rintro e w2 ⟨v2, rfl, H2⟩; obtain ⟨ad, cap, rfl, hcp, hown⟩ := slice_form' (H2.row 0 rfl)))
  clear kcl
  by_cases hn : ms = []
  · subst hn
    have H3 : St (fun _ => False) w w2 [Pool [], Row 68 8 (.slice ad 0 cap) 0 []] := H2.pool_nil
    go_loopw [4, 9] (fun _ j wr => j = .int .i64 0 ∧ St (fun _ => False) w wr [Pool [], Row 68 8 (.slice ad 0 cap) 0 []]) (fun _ _ _ => 0)
    case atStart => exact ⟨rfl, H3⟩
    case round =>
      clear H2 H3
      obtain ⟨rfl, HM⟩ := hrel
      go_wp2
      go_ret
      exact ⟨_, [], rfl, rfl, HM.pick [1, 0]⟩
  · have hne : ms.length ≠ 0 := fun h => hn (List.eq_nil_of_length_eq_zero h)
    obtain ⟨g, cap', R, hv', hnc, hcm, hxl, hcs, HB⟩ := H2.row_blk 0 rfl hne
    obtain ⟨rfl, rfl⟩ : ad = some ⟨g, 0, none⟩ ∧ cap = cap' := by injection hv' with h1 _ h2; exact ⟨h1, h2⟩
    have HB : St (fun _ => False) w w2 [Blk g (encP.all ms ++ R).toArray 68] := HB
    have HB2 : St (fun _ => False) w w2 [Pool [], Blk g (encP.all ms ++ R).toArray 68] := HB.pool_nil
    clear H2 HB hv' hown hn
    go_loopw [4, 9] (fun _ j wr => ∃ (i : Nat) (L : List Pm), i ≤ ms.length ∧ j = .int .i64 i ∧ Hid (L.map (·.p) = ms.map (·.p)) ∧ Hid (L.drop i = ms.drop i) ∧ St (fun _ => False) w wr [Pool ((L.take i).map Pm.own), Blk g (encP.all L ++ R).toArray 68]) (fun _ j _ => ms.length - (intOf j).toNat)
    case atStart => exact ⟨0, ms, by omega, rfl, Lib.hid rfl, Lib.hid rfl, HB2⟩
    case round =>
      clear HB2
      obtain ⟨i, L, hi, rfl, hM, hD, HM⟩ := hrel
      have hLl : L.length = ms.length := by have := congrArg List.length hM.out; simpa using this
      by_cases hlt : i < ms.length
      · obtain ⟨x, hx⟩ : ∃ x, ms[i]? = some x := ⟨_, List.getElem?_eq_getElem hlt⟩
        have hxL : L[i]? = some x := by
          have e1 : (L.drop i)[0]? = L[i]? := by simp
          have e2 : (ms.drop i)[0]? = ms[i]? := by simp
          rw [← e1, hD.out, e2, hx]
        have hxm := List.mem_of_getElem? hx
        have kc := ints_clone ((hroh.out x hxm).later HM.kept) (hth.out x hxm)
        obtain ⟨-, -, -, -, -, q5, -, -⟩ := pn_blk (HM.blk 1 rfl) hxL
        have f5 := HM.free 1 (i * 8 + 5) rfl
        have hlt2 : (i : Int) < (ms.length : Int) := by omega
        have hro5 := hroh.out x hxm
        have hxLh := Lib.hid hxL
        clear hx hxL hLl
        obtain ⟨⟨⟨xk, xf, xt⟩, ⟨gn, ga, gt, gx, gy⟩, xr⟩, xa, xc⟩ := x
        unfold Pm.hd at q5 kc hro5
        simp only at q5 kc hro5
        go_wp2_with (go_at_call 82; go_must (refine kc.mono ?_; rintro e w5 ⟨v5, rfl, H5⟩; obtain ⟨ax, cx, rfl, -, -⟩ := slice_form' (H5.row 0 rfl); have H6 := HM.call0 H5; have f5 := H6.free 2 (i * 8 + 3 + 2) rfl; have q5 : w5.cell? ⟨g, i * 8 + 3 + 2, none⟩ = some (.slice xa gt.length xc) := (pn_blk (H6.blk 2 rfl) hxLh.out).2.2.2.2.2.1))
        have H7 := H6.set 2 rfl (i * 8 + 3 + 2) (.slice ax gt.length cx)
        rw [show (encP.all L ++ R).toArray.setIfInBounds (i * 8 + 3 + 2) (.slice ax gt.length cx) = (encP.all (L.set i ⟨⟨⟨xk, xf, xt⟩, ⟨gn, ga, gt, gx, gy⟩, xr⟩, ax, cx⟩) ++ R).toArray from encP.set1 (j := 5) hxLh.out (by decide) rfl] at H7
        have H8 := St.pool_add (l := [_]) H7 (ints_own (H7.row 0 rfl) (ints_lim hro5))
        go_roundw
        case rel =>
          have hiL : i < L.length := (List.getElem?_eq_some_iff.1 hxLh.out).1
          refine ⟨i + 1, L.set i ⟨⟨⟨xk, xf, xt⟩, ⟨gn, ga, gt, gx, gy⟩, xr⟩, ax, cx⟩, by omega, by go_num, Lib.hid ?_, Lib.hid ?_, ?_⟩
          · rw [List.map_set, ← hM.out]
            refine List.ext_getElem? fun j => ?_
            rw [List.getElem?_set]
            split
            · rename_i h
              subst h
              rw [if_pos (by simpa using hiL), List.getElem?_map, hxLh.out]
              rfl
            · rfl
          · rw [List.drop_set_of_lt (by omega), ← List.drop_drop, hD.out, List.drop_drop]
          · have e : (L.set i ⟨⟨⟨xk, xf, xt⟩, ⟨gn, ga, gt, gx, gy⟩, xr⟩, ax, cx⟩).take (i + 1) = L.take i ++ [⟨⟨⟨xk, xf, xt⟩, ⟨gn, ga, gt, gx, gy⟩, xr⟩, ax, cx⟩] := take_set1 _ hiL
            rw [e]
            refine H8.pool_sub 0 rfl ?_
            intro y hy
            rw [List.map_append] at hy
            rcases List.mem_append.1 hy with hy | hy
            · exact List.mem_cons_of_mem _ hy
            · simp only [List.map_cons, List.map_nil, List.mem_singleton] at hy
              rw [hy]
              exact List.mem_cons_self
        case measure => simp [intOf]; omega
      · obtain rfl : i = ms.length := by omega
        have hLl2 : L.length = ms.length := by have := congrArg List.length hM.out; simpa using this
        rw [← hLl2, List.take_length] at HM
        go_wp2
        go_ret
        have H9 := HM.blk_row 1 (e := 68) (size := 8) (cap := cap) (n := ms.length) (xs := encP.all L) rfl hnc hcm (by
          rw [List.length_append, encP.all_len, hLl2]
          rw [List.length_append, encP.all_len] at hcs
          exact hcs) (by rw [List.take_append_of_le_length (by rw [encP.all_len, hLl2]; exact Nat.le_refl _), List.take_of_length_le (by rw [encP.all_len, hLl2]; exact Nat.le_refl _)])
        refine ⟨_, rfl, L, hM.out, ?_⟩
        rw [hLl2]
        exact H9.pick [1, 0]

set_option maxHeartbeats 4000000 in
set_option maxRecDepth 100000 in
theorem oper_windows {v : Value} {ms : List Pm} {w : World} (hv : encP.RO w v ms) (hl : ms.length ≤ 1073741824) :
    Calls Tryz.prog 79 #[v] w fun e w' => ∃ v', e = .returned v' ∧ St (fun _ => False) w w' [Row 61 3 v' ms.length (wds (ms.map (·.p.w)))] := by
  obtain ⟨ao, cap, rfl, hcap, hic⟩ := hv
  have H0 : St (fun _ => False) w w [Row 61 3 (.slice none 0 0) 0 (wds (([] : List Pm).map (·.p.w)))] := (St.nil _ w).row_nil 61 3
  have hich := Lib.hid hic
  clear hic
  go_enter Tryz.func79, Tryz.ntmps79
  go_upto_block 1 with (fail)
  go_loopw [3, 5, 8] (fun u _ j wr => ∃ (i : Nat), i ≤ ms.length ∧ j = .int .i64 i ∧ St (fun _ => False) w wr [Row 61 3 u i (wds ((ms.take i).map (·.p.w)))]) (fun _ _ j _ => ms.length - (intOf j).toNat)
  case atStart => exact ⟨0, by omega, rfl, H0⟩
  case round =>
    clear H0
    obtain ⟨i, hi, rfl, HM⟩ := hrel
    by_cases hlt : i < ms.length
    · obtain ⟨b, o, rfl, hb, hc⟩ := hich.out (by intro e; rw [e] at hlt; simp at hlt)
      obtain ⟨x, hx⟩ : ∃ x, ms[i]? = some x := ⟨_, List.getElem?_eq_getElem hlt⟩
      have hc := hc i x hx
      obtain ⟨q0, q1, q2, q3, q4, q5, q6, q7⟩ := pn_cells hc (HM.kept.block b hb id)
      have hsn : (ms.take (i + 1)).map (·.p.w) = (ms.take i).map (·.p.w) ++ [x.p.w] := by rw [take_snoc' hx]; simp
      have hsnh := Lib.hid hsn
      clear hx hc hsn
      obtain ⟨⟨⟨xk, xf, xt⟩, ⟨gn, ga, gt, gx, gy⟩, xr⟩, xa, xc⟩ := x
      unfold textV at q0
      unfold Pm.hd at q5
      simp only at q0 q1 q2 q3 q4 q5 q6 q7 hsnh
      have HA : St (fun _ => False) w _ [_, _] := HM.allocAt rfl #[.string ⟨xk.toArray⟩, .int .i64 xf, .int .i64 xt, .int .i64 gn, .int .i64 ga, .slice xa gt.length xc, .complex .f64 (ib gx) (ib gy), .int .i64 xr] 68
      go_upto_region 5 with (fail)
      obtain ⟨wb, hwb⟩ : ∃ wb, wr.alloc (.cells #[.string ⟨xk.toArray⟩, .int .i64 xf, .int .i64 xt, .int .i64 gn, .int .i64 ga, .slice xa gt.length xc, .complex .f64 (ib gx) (ib gy), .int .i64 xr] 68) = wb := ⟨_, rfl⟩
      obtain ⟨yb, hyb⟩ : ∃ yb, wr.heap.size = yb := ⟨_, rfl⟩
      rw [hwb, hyb] at HA
      try rw [hwb]
      try simp only [hyb]
      have HA2 : St (fun _ => False) w wb [Blk yb #[.string ⟨xk.toArray⟩, .int .i64 xf, .int .i64 xt, .int .i64 gn, .int .i64 ga, .slice xa gt.length xc, .complex .f64 (ib gx) (ib gy), .int .i64 xr] 68, Row 61 3 u3 i (wds ((ms.take i).map (·.p.w)))] := HA
      clear hwb hyb q0 q1 q2 q3 q4 q5 q6 q7 HM HA
      have d0 := HA2.cell 0 0 rfl rfl
      have d1 := HA2.cell 0 1 rfl rfl
      have d2 := HA2.cell 0 2 rfl rfl
      go_wp2_with (at_builtin; go_must (refine St.list_app (HA2.skip _) 1 rfl rfl (.tmp 12) (.tmp 15) 145 rfl Tryz.underlying145 Tryz.info61 (by decide) rfl [.string ⟨xk.toArray⟩, .int .i64 xf, .int .i64 xt] rfl rfl (new_cells #[.string ⟨xk.toArray⟩, .int .i64 xf, .int .i64 xt] _) (by simp [Value.oneCell']) (by omega) (by omega) ?_; intro g5 cap5 w6 H6 hz6))
      go_roundw
      case rel =>
        refine ⟨i + 1, by omega, by go_num, ?_⟩
        have H7 : St (fun _ => False) w w6 [_, _] := H6
        rw [hsnh.out, wds_app, wds_one]
        exact H7.pick [1]
      case measure => simp [intOf]; omega
    · obtain rfl : i = ms.length := by omega
      rw [List.take_length] at HM
      go_wp2
      go_ret
      exact ⟨_, rfl, HM⟩

end Go.Proofs.YtiglgfonhdfpmaaGreat
