import Derived.Test.YtiglgfonhdfpmaaGreatOr16
/- The document's Right of an aggregate that holds something. Conditions: a right query; bounds; its top ones are right. (Printed by a program of mine.) -/
set_option linter.unusedVariables false
set_option linter.unusedSimpArgs false
set_option maxHeartbeats 16000000
set_option maxRecDepth 100000
namespace Go.Proofs.YtiglgfonhdfpmaaGreat
open Go.RowKit
theorem doc_agr (q : Qry) (g : Ag) {hv : Value} (w : World) (hr : IntsRO w hv g.top) (hq : q.right = true) (hn : 0 < g.n ∧ g.n ≤ 4294967296) (hx : g.x.natAbs < 2 ^ 53) (hy : g.y.natAbs < 2 ^ 53) (ha : -4611686018427387904 ≤ g.a ∧ g.a ≤ 4611686018427387904) (hz : q.agg = 7 ∨ g.x = 0 ∧ g.y = 0) (ht : topB q g.n g.top = true) (hl : g.top.length ≤ 1073741824) :
    Calls Tryz.prog 179 #[qyV q, agV g hv] w fun e w' => e = .returned (.bool (g.right q)) ∧ Below w.heap.size w w' := by
 have kq := fun w' => doc_qright q w'
 rw [hq] at kq; have kx := fun w' => doc_whole hx w'
 have ky := fun w' => doc_whole hy w'
 have hf0 : g.right q = (decide (g.n ≤ 1073741824) && partB g.x && partB g.y && numB q g.a) := by
  have e1 : (decide (q.agg = 7) || decide (g.x = 0 ∧ g.y = 0)) = true := by simpa using hz
  unfold Ag.right; rw [hq, ht, e1, decide_eq_true (show 0 ≤ g.n by omega), decide_eq_true hn.1]
  cases decide (g.n ≤ 1073741824) <;> cases numB q g.a <;> cases partB g.x <;> cases partB g.y <;> rfl
 have hagg : 1 ≤ q.agg ∧ q.agg ≤ 7 := by
  unfold Qry.right at hq; simp only [Bool.and_eq_true, decide_eq_true_eq] at hq; exact hq.1.2
 have htop : (q.agg = 6 → (g.top.length : Int) = min g.n q.k ∧ Fall g.top ∧ ∀ v ∈ g.top, valB v = true) ∧ (q.agg ≠ 6 → g.top = []) := by
  rcases topB_iff.1 ht with ⟨h1, h2, h3, h4⟩ | ⟨h1, h2⟩
  · exact ⟨fun _ => ⟨h2, h3, h4⟩, fun h => absurd h1 h⟩
  · exact ⟨fun h => absurd h h1, fun _ => h2⟩
 have hnum : numB q g.a = if q.agg = 2 ∨ q.agg = 5 then decide (-4398046511104 ≤ g.a) && decide (g.a ≤ 4398046511104) else if q.agg = 3 ∨ q.agg = 4 then decide (-1099511627776 ≤ g.a) && decide (g.a ≤ 1099511627776) else decide (g.a = 0) := rfl
 obtain ⟨R, hR⟩ := zNm (g.right q); rw [hR] at hf0 ⊢; clear hR hq ht; obtain ⟨ad, cap, rfl, hcap, hint, hcell⟩ := hr; obtain ⟨kd, sz, sl, lt, ag, kk⟩ := q; obtain ⟨n, a, tp, x, y⟩ := g; simp only at *; unfold qyV agV qyC agC at *; simp only at *; obtain ⟨hn0, hn1⟩ := hn; obtain ⟨ha0, ha1⟩ := ha; obtain ⟨X, hX⟩ := zNm (ib x); obtain ⟨Y, hY⟩ := zNm (ib y); simp only [hX, hY] at kx ky ⊢; have hXh := zH hX; have hYh := zH hY; have hf := zH hf0; have hnumh := zH hnum; have htoph := zH htop; have hcellh := zH hcell; have hzh := zH hz; clear hX hY hf0 hint hx hy hnum htop hcell hz; obtain ⟨b, hb⟩ := zNm w.heap.size; obtain ⟨b2, hb2⟩ := zNm (b + 1); have H0 : zS w _ [_] := (St.nil _ w).allocAt hb #[.int .i64 kd, .int .i64 sz, .int .i64 sl, .int .i64 lt, .int .i64 ag, .int .i64 kk] 23; have H := H0.allocAt (B := b2) (by rw [← hb2, ← hb]; exact Array.size_push _) #[.int .i64 n, .int .i64 a, .slice ad tp.length cap, .complex .f64 X Y] 66
 obtain ⟨w1, hw1⟩ := zNm ((w.alloc (.cells #[.int .i64 kd, .int .i64 sz, .int .i64 sl, .int .i64 lt, .int .i64 ag, .int .i64 kk] 23)).alloc (.cells #[.int .i64 n, .int .i64 a, .slice ad tp.length cap, .complex .f64 X Y] 66)); rw [hw1] at H
 go_enter Tryz.func179, Tryz.ntmps179
 go_upto_region 1 with (fail)
 (try simp only [hb, hb2]); (try rw [hw1]); have hbh := zH hb; clear hw1 hb hb2 H0; have H : zS w w1 [zdP b2 n a ad tp.length cap X Y, zaP b kd sz sl lt ag kk] := H; have c0 := H.cell 1 0 rfl rfl; have c1 := H.cell 1 1 rfl rfl; have c2 := H.cell 1 2 rfl rfl; have c3 := H.cell 1 3 rfl rfl; have c4 := H.cell 1 4 rfl rfl; have c5 := H.cell 1 5 rfl rfl; have d0 := H.cell 0 0 rfl rfl; have d1 := H.cell 0 1 rfl rfl; have d2 := H.cell 0 2 rfl rfl; have d3 := H.cell 0 3 rfl rfl; have zn : decide (n < 0) = false := by simp; omega
 have zn0 : (n == 0) = false := by simp; omega
 have zn1 : ¬ n = 0 := by omega
 obtain ⟨px, hpx⟩ := zNm (partB x); obtain ⟨py, hpy⟩ := zNm (partB y); rw [hpx] at kx; rw [hpy] at ky; rw [hpx, hpy] at hf; clear hpx hpy
 have hk : 1073741824 < n ∨ (¬ 1073741824 < n ∧ px = false) ∨ (¬ 1073741824 < n ∧ px = true ∧ py = false) ∨ (¬ 1073741824 < n ∧ px = true ∧ py = true) := by
  cases px <;> cases py <;> simp <;> omega
 rcases hk with h1 | ⟨h1, rfl⟩ | ⟨h1, rfl, rfl⟩ | ⟨h1, rfl, rfl⟩
 · have hR := zH (show R = false by rw [hf.out]; simp; omega)
   have z1 : decide (1073741824 < n) = true := by simpa using h1
   clear hf hnumh
   go_wp2_with (first
    | (go_at_call 16; go_must (refine (St.callPast (kq _) H).mono ?_; clear c0 c1 c2 c3 c4 c5 d0 d1 d2 d3; rintro e w2 ⟨rfl, H2⟩; have c0 := H2.cell 1 0 rfl rfl; have c1 := H2.cell 1 1 rfl rfl; have c2 := H2.cell 1 2 rfl rfl; have c3 := H2.cell 1 3 rfl rfl; have c4 := H2.cell 1 4 rfl rfl; have c5 := H2.cell 1 5 rfl rfl; have d0 := H2.cell 0 0 rfl rfl; have d1 := H2.cell 0 1 rfl rfl; have d2 := H2.cell 0 2 rfl rfl; have d3 := H2.cell 0 3 rfl rfl))
    | (go_at_call 231; go_must (first | (with_reducible refine (kx _).mono ?_; rintro e wx1 ⟨rfl, hw⟩; subst hw) | (with_reducible refine (ky _).mono ?_; rintro e wy1 ⟨rfl, hw⟩; subst hw))))
   go_ret; rw [hR.out]; exact ⟨rfl, H2.below (Nat.le_refl _) (fun _ h => h.elim)⟩
 · have hR := zH (show R = false by rw [hf.out]; simp)
   have z1 : decide (1073741824 < n) = false := by simpa using h1
   clear hf hnumh
   go_wp2_with (first
    | (go_at_call 16; go_must (refine (St.callPast (kq _) H).mono ?_; clear c0 c1 c2 c3 c4 c5 d0 d1 d2 d3; rintro e w2 ⟨rfl, H2⟩; have c0 := H2.cell 1 0 rfl rfl; have c1 := H2.cell 1 1 rfl rfl; have c2 := H2.cell 1 2 rfl rfl; have c3 := H2.cell 1 3 rfl rfl; have c4 := H2.cell 1 4 rfl rfl; have c5 := H2.cell 1 5 rfl rfl; have d0 := H2.cell 0 0 rfl rfl; have d1 := H2.cell 0 1 rfl rfl; have d2 := H2.cell 0 2 rfl rfl; have d3 := H2.cell 0 3 rfl rfl))
    | (go_at_call 231; go_must (first | (with_reducible refine (kx _).mono ?_; rintro e wx1 ⟨rfl, hw⟩; subst hw) | (with_reducible refine (ky _).mono ?_; rintro e wy1 ⟨rfl, hw⟩; subst hw))))
   go_ret; rw [hR.out]; exact ⟨rfl, H2.below (Nat.le_refl _) (fun _ h => h.elim)⟩
 · have hR := zH (show R = false by rw [hf.out]; simp)
   have z1 : decide (1073741824 < n) = false := by simpa using h1
   clear hf hnumh
   go_wp2_with (first
    | (go_at_call 16; go_must (refine (St.callPast (kq _) H).mono ?_; clear c0 c1 c2 c3 c4 c5 d0 d1 d2 d3; rintro e w2 ⟨rfl, H2⟩; have c0 := H2.cell 1 0 rfl rfl; have c1 := H2.cell 1 1 rfl rfl; have c2 := H2.cell 1 2 rfl rfl; have c3 := H2.cell 1 3 rfl rfl; have c4 := H2.cell 1 4 rfl rfl; have c5 := H2.cell 1 5 rfl rfl; have d0 := H2.cell 0 0 rfl rfl; have d1 := H2.cell 0 1 rfl rfl; have d2 := H2.cell 0 2 rfl rfl; have d3 := H2.cell 0 3 rfl rfl))
    | (go_at_call 231; go_must (first | (with_reducible refine (kx _).mono ?_; rintro e wx1 ⟨rfl, hw⟩; subst hw) | (with_reducible refine (ky _).mono ?_; rintro e wy1 ⟨rfl, hw⟩; subst hw))))
   go_ret; rw [hR.out]; exact ⟨rfl, H2.below (Nat.le_refl _) (fun _ h => h.elim)⟩
 have zm : decide (1073741824 < n) = false := by simpa using h1
 have hf2 : Hid (R = numB ⟨kd, sz, sl, lt, ag, kk⟩ a) := zH (by rw [hf.out, decide_eq_true (show n ≤ 1073741824 by omega)]; rfl)
 clear hf
 go_upto_region 3 with (first
     | (go_at_call 16; go_must (refine (St.callPast (kq _) H).mono ?_; clear c0 c1 c2 c3 c4 c5 d0 d1 d2 d3; rintro e w2 ⟨rfl, H2⟩; have c0 := H2.cell 1 0 rfl rfl; have c1 := H2.cell 1 1 rfl rfl; have c2 := H2.cell 1 2 rfl rfl; have c3 := H2.cell 1 3 rfl rfl; have c4 := H2.cell 1 4 rfl rfl; have c5 := H2.cell 1 5 rfl rfl; have d0 := H2.cell 0 0 rfl rfl; have d1 := H2.cell 0 1 rfl rfl; have d2 := H2.cell 0 2 rfl rfl; have d3 := H2.cell 0 3 rfl rfl))
     | (go_at_call 231; go_must (first | (with_reducible refine (kx _).mono ?_; rintro e wx1 ⟨rfl, hw⟩; subst hw) | (with_reducible refine (ky _).mono ?_; rintro e wy1 ⟨rfl, hw⟩; subst hw))))
 clear H kx ky kq zm h1; have hka : ag = 1 ∨ ag = 2 ∨ ag = 3 ∨ ag = 4 ∨ ag = 5 ∨ ag = 6 ∨ ag = 7 := by omega
 clear hagg; rcases hka with rfl | rfl | rfl | rfl | rfl | rfl | rfl
 · have hnb := hnumh.out; have hz2 : (1 : Int) = 7 ∨ x = 0 ∧ y = 0    := hzh.out; obtain ⟨rfl, rfl⟩ := hz2.resolve_left (by decide)
   obtain rfl : X = 0 := by rw [← hXh.out]; exact ib_zero
   obtain rfl : Y = 0 := by rw [← hYh.out]; exact ib_zero
   have zz : (FloatKind.f64.format.order 0 0 == some Ordering.eq) = true := by decide +kernel
   by_cases a1 : a < 0
   · have hR := zH (show R = false by rw [hf2.out, hnb]; simp; omega)
     have z1 : decide (a < 0) = true := by simpa using a1
     clear hf2 hnumh hnb; go_wp2; go_ret; rw [hR.out]; exact ⟨rfl, H2.below (Nat.le_refl _) (fun _ h => h.elim)⟩
   have z1 : decide (a < 0) = false := by simpa using a1
   by_cases a2 : 0 < a
   · have hR := zH (show R = false by rw [hf2.out, hnb]; simp; omega)
     have z2 : decide (0 < a) = true := by simpa using a2
     clear hf2 hnumh hnb; go_wp2; go_ret; rw [hR.out]; exact ⟨rfl, H2.below (Nat.le_refl _) (fun _ h => h.elim)⟩
   have z2 : decide (0 < a) = false := by simpa using a2
   have hR := zH (show R = true by rw [hf2.out, hnb]; simp; omega)
   clear hf2 hnumh hnb; obtain rfl := htoph.out.2 (by decide)
   go_upto_block 1 with (fail)
   go_loopw [7, 8, 104] (fun _ _ j wr => j = .int .i64 0 ∧ wr = wy1) (fun _ _ _ _ => 0)
   case atStart => exact ⟨rfl, rfl⟩
   case round =>
    obtain ⟨rfl, rfl⟩ := hrel; go_wp2; go_ret; rw [hR.out]; exact ⟨rfl, H2.below (Nat.le_refl _) (fun _ h => h.elim)⟩
 · have hnb := hnumh.out; have hz2 : (2 : Int) = 7 ∨ x = 0 ∧ y = 0    := hzh.out; obtain ⟨rfl, rfl⟩ := hz2.resolve_left (by decide)
   obtain rfl : X = 0 := by rw [← hXh.out]; exact ib_zero
   obtain rfl : Y = 0 := by rw [← hYh.out]; exact ib_zero
   have zz : (FloatKind.f64.format.order 0 0 == some Ordering.eq) = true := by decide +kernel
   by_cases a1 : a < (-4398046511104)
   · have hR := zH (show R = false by rw [hf2.out, hnb]; simp; omega)
     have z1 : decide (a < (-4398046511104)) = true := by simpa using a1
     clear hf2 hnumh hnb; go_wp2; go_ret; rw [hR.out]; exact ⟨rfl, H2.below (Nat.le_refl _) (fun _ h => h.elim)⟩
   have z1 : decide (a < (-4398046511104)) = false := by simpa using a1
   by_cases a2 : 4398046511104 < a
   · have hR := zH (show R = false by rw [hf2.out, hnb]; simp; omega)
     have z2 : decide (4398046511104 < a) = true := by simpa using a2
     clear hf2 hnumh hnb; go_wp2; go_ret; rw [hR.out]; exact ⟨rfl, H2.below (Nat.le_refl _) (fun _ h => h.elim)⟩
   have z2 : decide (4398046511104 < a) = false := by simpa using a2
   have hR := zH (show R = true by rw [hf2.out, hnb]; simp; omega)
   clear hf2 hnumh hnb; obtain rfl := htoph.out.2 (by decide)
   go_upto_block 1 with (fail)
   go_loopw [7, 8, 104] (fun _ _ j wr => j = .int .i64 0 ∧ wr = wy1) (fun _ _ _ _ => 0)
   case atStart => exact ⟨rfl, rfl⟩
   case round =>
    obtain ⟨rfl, rfl⟩ := hrel; go_wp2; go_ret; rw [hR.out]; exact ⟨rfl, H2.below (Nat.le_refl _) (fun _ h => h.elim)⟩
 · have hnb := hnumh.out; have hz2 : (3 : Int) = 7 ∨ x = 0 ∧ y = 0    := hzh.out; obtain ⟨rfl, rfl⟩ := hz2.resolve_left (by decide)
   obtain rfl : X = 0 := by rw [← hXh.out]; exact ib_zero
   obtain rfl : Y = 0 := by rw [← hYh.out]; exact ib_zero
   have zz : (FloatKind.f64.format.order 0 0 == some Ordering.eq) = true := by decide +kernel
   by_cases a1 : a < (-1099511627776)
   · have hR := zH (show R = false by rw [hf2.out, hnb]; simp; omega)
     have z1 : decide (a < (-1099511627776)) = true := by simpa using a1
     clear hf2 hnumh hnb; go_wp2; go_ret; rw [hR.out]; exact ⟨rfl, H2.below (Nat.le_refl _) (fun _ h => h.elim)⟩
   have z1 : decide (a < (-1099511627776)) = false := by simpa using a1
   by_cases a2 : 1099511627776 < a
   · have hR := zH (show R = false by rw [hf2.out, hnb]; simp; omega)
     have z2 : decide (1099511627776 < a) = true := by simpa using a2
     clear hf2 hnumh hnb; go_wp2; go_ret; rw [hR.out]; exact ⟨rfl, H2.below (Nat.le_refl _) (fun _ h => h.elim)⟩
   have z2 : decide (1099511627776 < a) = false := by simpa using a2
   have hR := zH (show R = true by rw [hf2.out, hnb]; simp; omega)
   clear hf2 hnumh hnb; obtain rfl := htoph.out.2 (by decide)
   go_upto_block 1 with (fail)
   go_loopw [7, 8, 104] (fun _ _ j wr => j = .int .i64 0 ∧ wr = wy1) (fun _ _ _ _ => 0)
   case atStart => exact ⟨rfl, rfl⟩
   case round =>
    obtain ⟨rfl, rfl⟩ := hrel; go_wp2; go_ret; rw [hR.out]; exact ⟨rfl, H2.below (Nat.le_refl _) (fun _ h => h.elim)⟩
 · have hnb := hnumh.out; have hz2 : (4 : Int) = 7 ∨ x = 0 ∧ y = 0    := hzh.out; obtain ⟨rfl, rfl⟩ := hz2.resolve_left (by decide)
   obtain rfl : X = 0 := by rw [← hXh.out]; exact ib_zero
   obtain rfl : Y = 0 := by rw [← hYh.out]; exact ib_zero
   have zz : (FloatKind.f64.format.order 0 0 == some Ordering.eq) = true := by decide +kernel
   by_cases a1 : a < (-1099511627776)
   · have hR := zH (show R = false by rw [hf2.out, hnb]; simp; omega)
     have z1 : decide (a < (-1099511627776)) = true := by simpa using a1
     clear hf2 hnumh hnb; go_wp2; go_ret; rw [hR.out]; exact ⟨rfl, H2.below (Nat.le_refl _) (fun _ h => h.elim)⟩
   have z1 : decide (a < (-1099511627776)) = false := by simpa using a1
   by_cases a2 : 1099511627776 < a
   · have hR := zH (show R = false by rw [hf2.out, hnb]; simp; omega)
     have z2 : decide (1099511627776 < a) = true := by simpa using a2
     clear hf2 hnumh hnb; go_wp2; go_ret; rw [hR.out]; exact ⟨rfl, H2.below (Nat.le_refl _) (fun _ h => h.elim)⟩
   have z2 : decide (1099511627776 < a) = false := by simpa using a2
   have hR := zH (show R = true by rw [hf2.out, hnb]; simp; omega)
   clear hf2 hnumh hnb; obtain rfl := htoph.out.2 (by decide)
   go_upto_block 1 with (fail)
   go_loopw [7, 8, 104] (fun _ _ j wr => j = .int .i64 0 ∧ wr = wy1) (fun _ _ _ _ => 0)
   case atStart => exact ⟨rfl, rfl⟩
   case round =>
    obtain ⟨rfl, rfl⟩ := hrel; go_wp2; go_ret; rw [hR.out]; exact ⟨rfl, H2.below (Nat.le_refl _) (fun _ h => h.elim)⟩
 · have hnb := hnumh.out; have hz2 : (5 : Int) = 7 ∨ x = 0 ∧ y = 0    := hzh.out; obtain ⟨rfl, rfl⟩ := hz2.resolve_left (by decide)
   obtain rfl : X = 0 := by rw [← hXh.out]; exact ib_zero
   obtain rfl : Y = 0 := by rw [← hYh.out]; exact ib_zero
   have zz : (FloatKind.f64.format.order 0 0 == some Ordering.eq) = true := by decide +kernel
   by_cases a1 : a < (-4398046511104)
   · have hR := zH (show R = false by rw [hf2.out, hnb]; simp; omega)
     have z1 : decide (a < (-4398046511104)) = true := by simpa using a1
     clear hf2 hnumh hnb; go_wp2; go_ret; rw [hR.out]; exact ⟨rfl, H2.below (Nat.le_refl _) (fun _ h => h.elim)⟩
   have z1 : decide (a < (-4398046511104)) = false := by simpa using a1
   by_cases a2 : 4398046511104 < a
   · have hR := zH (show R = false by rw [hf2.out, hnb]; simp; omega)
     have z2 : decide (4398046511104 < a) = true := by simpa using a2
     clear hf2 hnumh hnb; go_wp2; go_ret; rw [hR.out]; exact ⟨rfl, H2.below (Nat.le_refl _) (fun _ h => h.elim)⟩
   have z2 : decide (4398046511104 < a) = false := by simpa using a2
   have hR := zH (show R = true by rw [hf2.out, hnb]; simp; omega)
   clear hf2 hnumh hnb; obtain rfl := htoph.out.2 (by decide)
   go_upto_block 1 with (fail)
   go_loopw [7, 8, 104] (fun _ _ j wr => j = .int .i64 0 ∧ wr = wy1) (fun _ _ _ _ => 0)
   case atStart => exact ⟨rfl, rfl⟩
   case round =>
    obtain ⟨rfl, rfl⟩ := hrel; go_wp2; go_ret; rw [hR.out]; exact ⟨rfl, H2.below (Nat.le_refl _) (fun _ h => h.elim)⟩
 · have hnb := hnumh.out; have hz2 : (6 : Int) = 7 ∨ x = 0 ∧ y = 0    := hzh.out; obtain ⟨rfl, rfl⟩ := hz2.resolve_left (by decide)
   obtain rfl : X = 0 := by rw [← hXh.out]; exact ib_zero
   obtain rfl : Y = 0 := by rw [← hYh.out]; exact ib_zero
   have zz : (FloatKind.f64.format.order 0 0 == some Ordering.eq) = true := by decide +kernel
   by_cases a1 : a < 0
   · have hR := zH (show R = false by rw [hf2.out, hnb]; simp; omega)
     have z1 : decide (a < 0) = true := by simpa using a1
     clear hf2 hnumh hnb; go_wp2; go_ret; rw [hR.out]; exact ⟨rfl, H2.below (Nat.le_refl _) (fun _ h => h.elim)⟩
   have z1 : decide (a < 0) = false := by simpa using a1
   by_cases a2 : 0 < a
   · have hR := zH (show R = false by rw [hf2.out, hnb]; simp; omega)
     have z2 : decide (0 < a) = true := by simpa using a2
     clear hf2 hnumh hnb; go_wp2; go_ret; rw [hR.out]; exact ⟨rfl, H2.below (Nat.le_refl _) (fun _ h => h.elim)⟩
   have z2 : decide (0 < a) = false := by simpa using a2
   have hR := zH (show R = true by rw [hf2.out, hnb]; simp; omega)
   clear hf2 hnumh hnb; obtain ⟨hmin, hfall⟩ := htoph.out.1 rfl
   have hmin2 : (if n < kk then n else kk) = (tp.length : Int) := by split <;> omega
   have hfallh := zH hfall; clear hmin hfall
   go_upto_block 1 with (fail)
   clear hmin2
   go_loopw [7, 8, 104] (fun _ _ j wr => ∃ (i : Nat), i ≤ tp.length ∧ j = .int .i64 i ∧ wr = wy1) (fun _ _ j _ => tp.length - (intOf j).toNat)
   case atStart => exact ⟨0, Nat.zero_le _, rfl, rfl⟩
   case round =>
    obtain ⟨i, hi, rfl, rfl⟩ := hrel
    by_cases hlt : i < tp.length
    · obtain ⟨bb, oo, rfl, hb, hc⟩ := hcellh.out (by rintro rfl; simp at hlt)
      obtain ⟨v, hv⟩ : ∃ v, tp[i]? = some v := ⟨_, List.getElem?_eq_getElem hlt⟩; have v0 := (H2.kept.block bb hb id); have e0 := (World.cell?_of_block v0).trans (hc i v hv); have hvb := valB_iff.1 (hfallh.out.2 v (List.mem_of_getElem? hv)); obtain ⟨hvb1, hvb2⟩ := hvb; have hlt2 : (i : Int) < (tp.length : Int) := by omega
      cases i with
      | zero =>
       clear hv hc; simp only [Nat.add_zero, Int.natCast_zero] at *; go_wp2; go_roundw
       case rel => exact ⟨1, by omega, by go_num, by first | rfl | trivial⟩
       case measure => first | (simp [intOf]; done) | (simp [intOf]; omega)
      | succ k =>
       obtain ⟨u, hu⟩ : ∃ y, tp[k]? = some y := ⟨_, List.getElem?_eq_getElem (by omega)⟩
       have e1 := (World.cell?_of_block v0).trans (hc k u hu); have n1 : ((k : Int) + 1 - 1).toNat = k := by omega
       have hle : ¬ u < v := by
        have hp := hfallh.out.1; unfold Fall at hp; obtain ⟨hi1, g1⟩ := List.getElem?_eq_some_iff.1 hv; obtain ⟨hj1, g2⟩ := List.getElem?_eq_some_iff.1 hu; have := List.pairwise_iff_getElem.1 hp k (k + 1) hj1 hi1 (by omega)
        omega
       have z5 : decide (u < v) = false := by simpa using hle
       clear hv hu hc hle; go_wp2; go_roundw
       case rel => exact ⟨k + 1 + 1, by omega, by go_num, by first | rfl | trivial⟩
       case measure => first | (simp [intOf]; done) | (simp [intOf]; omega)
    · obtain rfl : i = tp.length := by omega
      go_wp2; go_ret; rw [hR.out]; exact ⟨rfl, H2.below (Nat.le_refl _) (fun _ h => h.elim)⟩
 · have hnb := hnumh.out; have hz2 : (7 : Int) = 7 ∨ x = 0 ∧ y = 0    := hzh.out
   by_cases a1 : a < 0
   · have hR := zH (show R = false by rw [hf2.out, hnb]; simp; omega)
     have z1 : decide (a < 0) = true := by simpa using a1
     clear hf2 hnumh hnb; go_wp2; go_ret; rw [hR.out]; exact ⟨rfl, H2.below (Nat.le_refl _) (fun _ h => h.elim)⟩
   have z1 : decide (a < 0) = false := by simpa using a1
   by_cases a2 : 0 < a
   · have hR := zH (show R = false by rw [hf2.out, hnb]; simp; omega)
     have z2 : decide (0 < a) = true := by simpa using a2
     clear hf2 hnumh hnb; go_wp2; go_ret; rw [hR.out]; exact ⟨rfl, H2.below (Nat.le_refl _) (fun _ h => h.elim)⟩
   have z2 : decide (0 < a) = false := by simpa using a2
   have hR := zH (show R = true by rw [hf2.out, hnb]; simp; omega)
   clear hf2 hnumh hnb; obtain rfl := htoph.out.2 (by decide)
   go_upto_block 1 with (fail)
   go_loopw [7, 8, 104] (fun _ _ j wr => j = .int .i64 0 ∧ wr = wy1) (fun _ _ _ _ => 0)
   case atStart => exact ⟨rfl, rfl⟩
   case round =>
    obtain ⟨rfl, rfl⟩ := hrel; go_wp2; go_ret; rw [hR.out]; exact ⟨rfl, H2.below (Nat.le_refl _) (fun _ h => h.elim)⟩
end Go.Proofs.YtiglgfonhdfpmaaGreat
namespace Go.Proofs.YtiglgfonhdfpmaaGreat
open Go.RowKit
theorem IntsRO.nil (w : World) : IntsRO w (.slice none 0 0) [] := ⟨none, 0, rfl, Nat.le_refl _, by simp, fun h => absurd rfl h⟩
abbrev zcbP (a0) (a1) (a2) (a3) (a4) (a5) := (Blk a0 #[.int .i64 a1, .int .i64 a2, .int .i64 a3, .int .i64 a4, .int .i64 3, .int .i64 a5] 23 : SP)
abbrev zccP (a0) (a1) (a2) (a3) (a4) (a5) := (Blk a0 #[.int .i64 a1, .int .i64 a2, .int .i64 a3, .int .i64 a4, .int .i64 4, .int .i64 a5] 23 : SP)
abbrev zcdP (a0) (a1) (a2) (a3) (a4) (a5) := (Blk a0 #[.int .i64 a1, .int .i64 a2, .int .i64 a3, .int .i64 a4, .int .i64 7, .int .i64 a5] 23 : SP)
abbrev zciP (a0) := (Blk a0 #[.int .i64 1, .int .i64 0, .slice none 0 0, .complex .f64 0 0] 66 : SP)
theorem doc_single (q : Qry) {v : Int} {lv : Value} (w : World) (hr : IntsRO w lv [v]) (hq : q.right = true) (hv : valB v = true) :
    Calls Tryz.prog 185 #[qyV q, lv] w fun e w' => ∃ h, e = .returned (.tuple #[agV (singleM q v) h, .bool true]) ∧ zS w w' [Row 3 1 h (singleM q v).top.length (intCells (singleM q v).top)] := by
 have hright := single_right hq hv; have hvb := valB_iff.1 hv; have hagg : 1 ≤ q.agg ∧ q.agg ≤ 7 := (right_nums hright).1
 have hk6 : q.agg = 6 → 1 ≤ q.k ∧ q.k ≤ 8 := fun h => by
  unfold Qry.right Qry.kB at hq; simp only [Bool.and_eq_true, decide_eq_true_eq] at hq; have := hq.2; rw [if_pos h] at this
  simpa using this
 obtain ⟨la, lc, rfl, hlc, -, hcell⟩ := hr; obtain ⟨lb, lo, rfl, hlb, hc⟩ := hcell (by simp)
 have hc0 := hc 0 v rfl; simp only [List.length_singleton]; clear hcell hc hlc; obtain ⟨kd, sz, sl, lt, ag, kk⟩ := q; simp only at hagg hk6; have hn1 := single_n ⟨kd, sz, sl, lt, ag, kk⟩ v; obtain ⟨⟨N1, A, T, x, y⟩, hsg⟩ : ∃ z, singleM ⟨kd, sz, sl, lt, ag, kk⟩ v = z := ⟨_, rfl⟩; rw [hsg] at hright hn1 ⊢; simp only at hn1; subst hn1; have hnums := right_nums hright; have hiff := Ag.right_iff.1 hright; have kr := fun w' (hv : Value) (hr : IntsRO w' hv T) => doc_agr ⟨kd, sz, sl, lt, ag, kk⟩ ⟨1, A, T, x, y⟩ w' hr hq (by simp only; omega) (by have := hnums.2.2.2.2.2.2.1; simp only at this ⊢; omega) (by have := hnums.2.2.2.2.2.2.2; simp only at this ⊢; omega) (by have := hnums.2.2.1; simp only at this ⊢; omega) hiff.2.2.2.2.2.1 hiff.2.2.2.2.1 (by have := hnums.2.2.2.1; simp only at this ⊢; omega)
 rw [hright] at kr; clear hright hnums hiff hq hv; unfold qyV qyC agV agC at kr; unfold qyV qyC agV agC; simp only at kr ⊢; obtain ⟨X, hX⟩ := zNm (ib x); obtain ⟨Y, hY⟩ := zNm (ib y); simp only [hX, hY] at kr ⊢; have hXh := zH hX; have hYh := zH hY; have hsgh := zH hsg; have hk6h := zH hk6; clear hX hY hsg hk6; obtain ⟨b, hb⟩ := zNm w.heap.size; obtain ⟨rb, hrb⟩ := zNm (b + 1); obtain ⟨ab, hab⟩ := zNm (rb + 1); have sz1 : ∀ (w : World) (o : Obj), (w.alloc o).heap.size = w.heap.size + 1 := fun w o => Array.size_push _
 have H0 : zS w _ [_] := (St.nil _ w).allocAt hb #[.int .i64 kd, .int .i64 sz, .int .i64 sl, .int .i64 lt, .int .i64 ag, .int .i64 kk] 23; have s1 : (w.alloc (.cells #[.int .i64 kd, .int .i64 sz, .int .i64 sl, .int .i64 lt, .int .i64 ag, .int .i64 kk] 23)).heap.size = rb := by rw [sz1, hb, hrb]
 have H1 := H0.allocAt (B := rb) s1 #[.int .i64 0, .int .i64 0, .slice none 0 0, .complex .f64 0 0] 66; have s2 : ((w.alloc (.cells #[.int .i64 kd, .int .i64 sz, .int .i64 sl, .int .i64 lt, .int .i64 ag, .int .i64 kk] 23)).alloc (.cells #[.int .i64 0, .int .i64 0, .slice none 0 0, .complex .f64 0 0] 66)).heap.size = ab := by rw [sz1, s1, hab]
 have H2 := H1.allocAt (B := ab) s2 #[.int .i64 0, .int .i64 0, .slice none 0 0, .complex .f64 0 0] 66; obtain ⟨w1, hw1⟩ := zNm (((w.alloc (.cells #[.int .i64 kd, .int .i64 sz, .int .i64 sl, .int .i64 lt, .int .i64 ag, .int .i64 kk] 23)).alloc (.cells #[.int .i64 0, .int .i64 0, .slice none 0 0, .complex .f64 0 0] 66)).alloc (.cells #[.int .i64 0, .int .i64 0, .slice none 0 0, .complex .f64 0 0] 66)); rw [hw1] at H2
 go_enter Tryz.func185, Tryz.ntmps185
 go_upto_block 1 with (fail)
 (try simp only [hb, hrb, hab]); (try rw [hw1]); have hbh := zH hb; clear hw1 s1 s2 sz1 H0 H1 hb hrb hab; have H2 : zS w w1 [zhP ab, zhP rb, zaP b kd sz sl lt ag kk] := H2
 go_loopw [7, 8, 9, 12] (fun _ _ _ j wr => (j = .int .i64 0 ∧ zS w wr [zhP ab, zhP rb, zaP b kd sz sl lt ag kk]) ∨ (j = .int .i64 1 ∧ ∃ (ta : Option Addr) (tc : Nat), zS w wr [zxP (intCells T) ta T.length tc, Blk ab #[.int .i64 1, .int .i64 A, .slice ta T.length tc, .complex .f64 X Y] 66, zhP rb, zaP b kd sz sl lt ag kk])) (fun _ _ _ j _ => 1 - (intOf j).toNat)
 case atStart => exact .inl ⟨rfl, H2⟩
 case round =>
  clear H2; rcases hrel with ⟨rfl, HM⟩ | ⟨rfl, ta, tc, HM⟩
  · have e0 := (World.cell?_of_block (HM.kept.block lb hlb id)).trans hc0; simp only [Nat.add_zero] at e0; have e0b : wr.cell? ⟨lb, lo + 0, none⟩ = some (.int .i64 v) := e0; have a0 := HM.cell 0 0 rfl rfl; have a1 := HM.cell 0 1 rfl rfl; have a2 := HM.cell 0 2 rfl rfl; have a3 := HM.cell 0 3 rfl rfl; have p0 := HM.free 0 0 rfl; have p1 := HM.free 0 1 rfl; have p2 := HM.free 0 2 rfl; have p3 := HM.free 0 3 rfl; have H5 := HM.set 0 rfl 0 (.int .i64 1); go_upto_region 6 with (fail)
    obtain ⟨w5, hw5⟩ := zNm (wr.setCell ⟨ab, 0, none⟩ (.int .i64 1)); rw [hw5] at H5; (try rw [hw5]); have H5 : zS w w5 [zciP ab, zhP rb, zaP b kd sz sl lt ag kk] := H5; clear hw5 HM a0 a1 a2 a3 p0 p1 p2 p3 e0 e0b; obtain ⟨hvb1, hvb2⟩ := hvb; have hka : ag = 1 ∨ ag = 2 ∨ ag = 3 ∨ ag = 4 ∨ ag = 5 ∨ ag = 6 ∨ ag = 7 := by omega
    clear hagg; rcases hka with rfl | rfl | rfl | rfl | rfl | rfl | rfl
    · have hs : singleM ⟨kd, sz, sl, lt, 1, kk⟩ v = ⟨1, 0, [], 0, 0⟩ := rfl; rw [hs] at hsgh; have hs2 := hsgh.out; simp only [Ag.mk.injEq, true_and] at hs2; obtain ⟨e1, e2, e3, e4⟩ := hs2; subst e1 e2 e3 e4; clear hs hsgh; obtain rfl : X = 0 := by rw [← hXh.out]; exact ib_zero
      obtain rfl : Y = 0 := by rw [← hYh.out]; exact ib_zero
      have HF : zS w w5 [zceP (intCells []), zciP ab, zhP rb, Blk b #[.int .i64 kd, .int .i64 sz, .int .i64 sl, .int .i64 lt, .int .i64 1, .int .i64 kk] 23] := H5.row_nil 3 1; have a0 := HF.cell 1 0 rfl rfl; have a1 := HF.cell 1 1 rfl rfl; have a2 := HF.cell 1 2 rfl rfl; have a3 := HF.cell 1 3 rfl rfl; have c0 := HF.cell 3 0 rfl rfl; have c1 := HF.cell 3 1 rfl rfl; have c2 := HF.cell 3 2 rfl rfl; have c3 := HF.cell 3 3 rfl rfl; have c4 := HF.cell 3 4 rfl rfl; have c5 := HF.cell 3 5 rfl rfl
      go_wp2_with (go_at_call 179; go_must (refine (St.callPast (kr _ _ (IntsRO.nil _)) HF).mono ?_; rintro e w8 ⟨rfl, HG⟩))
      go_roundw
      case rel => exact .inr ⟨by first | rfl | go_num, _, _, HG⟩
      case measure => simp [intOf]
    · have hs : singleM ⟨kd, sz, sl, lt, 2, kk⟩ v = ⟨1, v, [], 0, 0⟩ := rfl; rw [hs] at hsgh; have hs2 := hsgh.out; simp only [Ag.mk.injEq, true_and] at hs2; obtain ⟨e1, e2, e3, e4⟩ := hs2; subst e1 e2 e3 e4; clear hs hsgh; obtain rfl : X = 0 := by rw [← hXh.out]; exact ib_zero
      obtain rfl : Y = 0 := by rw [← hYh.out]; exact ib_zero
      have a0 := H5.cell 0 0 rfl rfl; have a1 := H5.cell 0 1 rfl rfl; have a2 := H5.cell 0 2 rfl rfl; have a3 := H5.cell 0 3 rfl rfl; have p0 := H5.free 0 0 rfl; have p1 := H5.free 0 1 rfl; have p2 := H5.free 0 2 rfl; have p3 := H5.free 0 3 rfl; have c0 := H5.cell 2 0 rfl rfl; have c1 := H5.cell 2 1 rfl rfl; have c2 := H5.cell 2 2 rfl rfl; have c3 := H5.cell 2 3 rfl rfl; have c4 := H5.cell 2 4 rfl rfl; have c5 := H5.cell 2 5 rfl rfl; have H6 := H5.set 0 rfl 1 (.int .i64 v); have n1 : IntKind.i64.wrap (0 + v) = v := by rw [IntKind.wrap_i64]; omega
      go_upto_region 21 with (fail)
      obtain ⟨w6, hw6⟩ := zNm (w5.setCell ⟨ab, 1, none⟩ (.int .i64 v)); rw [hw6] at H6; (try rw [hw6]); clear hw6 H5 a0 a1 a2 a3 p0 p1 p2 p3 c0 c1 c2 c3 c4 c5 n1; have HF : zS w w6 [zceP (intCells []), zbwP ab v, zhP rb, Blk b #[.int .i64 kd, .int .i64 sz, .int .i64 sl, .int .i64 lt, .int .i64 2, .int .i64 kk] 23] := H6.row_nil 3 1; have a0 := HF.cell 1 0 rfl rfl; have a1 := HF.cell 1 1 rfl rfl; have a2 := HF.cell 1 2 rfl rfl; have a3 := HF.cell 1 3 rfl rfl; have c0 := HF.cell 3 0 rfl rfl; have c1 := HF.cell 3 1 rfl rfl; have c2 := HF.cell 3 2 rfl rfl; have c3 := HF.cell 3 3 rfl rfl; have c4 := HF.cell 3 4 rfl rfl; have c5 := HF.cell 3 5 rfl rfl
      go_wp2_with (go_at_call 179; go_must (refine (St.callPast (kr _ _ (IntsRO.nil _)) HF).mono ?_; rintro e w8 ⟨rfl, HG⟩))
      go_roundw
      case rel => exact .inr ⟨by first | rfl | go_num, _, _, HG⟩
      case measure => simp [intOf]
    · have hs : singleM ⟨kd, sz, sl, lt, 3, kk⟩ v = ⟨1, v, [], 0, 0⟩ := rfl; rw [hs] at hsgh; have hs2 := hsgh.out; simp only [Ag.mk.injEq, true_and] at hs2; obtain ⟨e1, e2, e3, e4⟩ := hs2; subst e1 e2 e3 e4; clear hs hsgh; obtain rfl : X = 0 := by rw [← hXh.out]; exact ib_zero
      obtain rfl : Y = 0 := by rw [← hYh.out]; exact ib_zero
      have a0 := H5.cell 0 0 rfl rfl; have a1 := H5.cell 0 1 rfl rfl; have a2 := H5.cell 0 2 rfl rfl; have a3 := H5.cell 0 3 rfl rfl; have p0 := H5.free 0 0 rfl; have p1 := H5.free 0 1 rfl; have p2 := H5.free 0 2 rfl; have p3 := H5.free 0 3 rfl; have c0 := H5.cell 2 0 rfl rfl; have c1 := H5.cell 2 1 rfl rfl; have c2 := H5.cell 2 2 rfl rfl; have c3 := H5.cell 2 3 rfl rfl; have c4 := H5.cell 2 4 rfl rfl; have c5 := H5.cell 2 5 rfl rfl; have H6 := H5.set 0 rfl 1 (.int .i64 v); have n1 : IntKind.i64.wrap (0 + v) = v := by rw [IntKind.wrap_i64]; omega
      go_upto_region 21 with (fail)
      obtain ⟨w6, hw6⟩ := zNm (w5.setCell ⟨ab, 1, none⟩ (.int .i64 v)); rw [hw6] at H6; (try rw [hw6]); clear hw6 H5 a0 a1 a2 a3 p0 p1 p2 p3 c0 c1 c2 c3 c4 c5 n1; have HF : zS w w6 [zceP (intCells []), zbwP ab v, zhP rb, zcbP b kd sz sl lt kk] := H6.row_nil 3 1; have a0 := HF.cell 1 0 rfl rfl; have a1 := HF.cell 1 1 rfl rfl; have a2 := HF.cell 1 2 rfl rfl; have a3 := HF.cell 1 3 rfl rfl; have c0 := HF.cell 3 0 rfl rfl; have c1 := HF.cell 3 1 rfl rfl; have c2 := HF.cell 3 2 rfl rfl; have c3 := HF.cell 3 3 rfl rfl; have c4 := HF.cell 3 4 rfl rfl; have c5 := HF.cell 3 5 rfl rfl
      go_wp2_with (go_at_call 179; go_must (refine (St.callPast (kr _ _ (IntsRO.nil _)) HF).mono ?_; rintro e w8 ⟨rfl, HG⟩))
      go_roundw
      case rel => exact .inr ⟨by first | rfl | go_num, _, _, HG⟩
      case measure => simp [intOf]
    · have hs : singleM ⟨kd, sz, sl, lt, 4, kk⟩ v = ⟨1, v, [], 0, 0⟩ := rfl; rw [hs] at hsgh; have hs2 := hsgh.out; simp only [Ag.mk.injEq, true_and] at hs2; obtain ⟨e1, e2, e3, e4⟩ := hs2; subst e1 e2 e3 e4; clear hs hsgh; obtain rfl : X = 0 := by rw [← hXh.out]; exact ib_zero
      obtain rfl : Y = 0 := by rw [← hYh.out]; exact ib_zero
      have a0 := H5.cell 0 0 rfl rfl; have a1 := H5.cell 0 1 rfl rfl; have a2 := H5.cell 0 2 rfl rfl; have a3 := H5.cell 0 3 rfl rfl; have p0 := H5.free 0 0 rfl; have p1 := H5.free 0 1 rfl; have p2 := H5.free 0 2 rfl; have p3 := H5.free 0 3 rfl; have c0 := H5.cell 2 0 rfl rfl; have c1 := H5.cell 2 1 rfl rfl; have c2 := H5.cell 2 2 rfl rfl; have c3 := H5.cell 2 3 rfl rfl; have c4 := H5.cell 2 4 rfl rfl; have c5 := H5.cell 2 5 rfl rfl; have H6 := H5.set 0 rfl 1 (.int .i64 v); have n1 : IntKind.i64.wrap (0 + v) = v := by rw [IntKind.wrap_i64]; omega
      go_upto_region 21 with (fail)
      obtain ⟨w6, hw6⟩ := zNm (w5.setCell ⟨ab, 1, none⟩ (.int .i64 v)); rw [hw6] at H6; (try rw [hw6]); clear hw6 H5 a0 a1 a2 a3 p0 p1 p2 p3 c0 c1 c2 c3 c4 c5 n1; have HF : zS w w6 [zceP (intCells []), zbwP ab v, zhP rb, zccP b kd sz sl lt kk] := H6.row_nil 3 1; have a0 := HF.cell 1 0 rfl rfl; have a1 := HF.cell 1 1 rfl rfl; have a2 := HF.cell 1 2 rfl rfl; have a3 := HF.cell 1 3 rfl rfl; have c0 := HF.cell 3 0 rfl rfl; have c1 := HF.cell 3 1 rfl rfl; have c2 := HF.cell 3 2 rfl rfl; have c3 := HF.cell 3 3 rfl rfl; have c4 := HF.cell 3 4 rfl rfl; have c5 := HF.cell 3 5 rfl rfl
      go_wp2_with (go_at_call 179; go_must (refine (St.callPast (kr _ _ (IntsRO.nil _)) HF).mono ?_; rintro e w8 ⟨rfl, HG⟩))
      go_roundw
      case rel => exact .inr ⟨by first | rfl | go_num, _, _, HG⟩
      case measure => simp [intOf]
    · have hs : singleM ⟨kd, sz, sl, lt, 5, kk⟩ v = ⟨1, v, [], 0, 0⟩ := rfl; rw [hs] at hsgh; have hs2 := hsgh.out; simp only [Ag.mk.injEq, true_and] at hs2; obtain ⟨e1, e2, e3, e4⟩ := hs2; subst e1 e2 e3 e4; clear hs hsgh; obtain rfl : X = 0 := by rw [← hXh.out]; exact ib_zero
      obtain rfl : Y = 0 := by rw [← hYh.out]; exact ib_zero
      have a0 := H5.cell 0 0 rfl rfl; have a1 := H5.cell 0 1 rfl rfl; have a2 := H5.cell 0 2 rfl rfl; have a3 := H5.cell 0 3 rfl rfl; have p0 := H5.free 0 0 rfl; have p1 := H5.free 0 1 rfl; have p2 := H5.free 0 2 rfl; have p3 := H5.free 0 3 rfl; have c0 := H5.cell 2 0 rfl rfl; have c1 := H5.cell 2 1 rfl rfl; have c2 := H5.cell 2 2 rfl rfl; have c3 := H5.cell 2 3 rfl rfl; have c4 := H5.cell 2 4 rfl rfl; have c5 := H5.cell 2 5 rfl rfl; have H6 := H5.set 0 rfl 1 (.int .i64 v); have n1 : IntKind.i64.wrap (0 + v) = v := by rw [IntKind.wrap_i64]; omega
      go_upto_region 21 with (fail)
      obtain ⟨w6, hw6⟩ := zNm (w5.setCell ⟨ab, 1, none⟩ (.int .i64 v)); rw [hw6] at H6; (try rw [hw6]); clear hw6 H5 a0 a1 a2 a3 p0 p1 p2 p3 c0 c1 c2 c3 c4 c5 n1; have HF : zS w w6 [zceP (intCells []), zbwP ab v, zhP rb, Blk b #[.int .i64 kd, .int .i64 sz, .int .i64 sl, .int .i64 lt, .int .i64 5, .int .i64 kk] 23] := H6.row_nil 3 1; have a0 := HF.cell 1 0 rfl rfl; have a1 := HF.cell 1 1 rfl rfl; have a2 := HF.cell 1 2 rfl rfl; have a3 := HF.cell 1 3 rfl rfl; have c0 := HF.cell 3 0 rfl rfl; have c1 := HF.cell 3 1 rfl rfl; have c2 := HF.cell 3 2 rfl rfl; have c3 := HF.cell 3 3 rfl rfl; have c4 := HF.cell 3 4 rfl rfl; have c5 := HF.cell 3 5 rfl rfl
      go_wp2_with (go_at_call 179; go_must (refine (St.callPast (kr _ _ (IntsRO.nil _)) HF).mono ?_; rintro e w8 ⟨rfl, HG⟩))
      go_roundw
      case rel => exact .inr ⟨by first | rfl | go_num, _, _, HG⟩
      case measure => simp [intOf]
    · have hs : singleM ⟨kd, sz, sl, lt, 6, kk⟩ v = ⟨1, 0, [v], 0, 0⟩ := rfl; rw [hs] at hsgh; have hs2 := hsgh.out; simp only [Ag.mk.injEq, true_and] at hs2; obtain ⟨e1, e2, e3, e4⟩ := hs2; subst e1 e2 e3 e4; clear hs hsgh; obtain rfl : X = 0 := by rw [← hXh.out]; exact ib_zero
      obtain rfl : Y = 0 := by rw [← hYh.out]; exact ib_zero
      have a0 := H5.cell 0 0 rfl rfl; have a1 := H5.cell 0 1 rfl rfl; have a2 := H5.cell 0 2 rfl rfl; have a3 := H5.cell 0 3 rfl rfl; have p0 := H5.free 0 0 rfl; have p1 := H5.free 0 1 rfl; have p2 := H5.free 0 2 rfl; have p3 := H5.free 0 3 rfl; have c0 := H5.cell 2 0 rfl rfl; have c1 := H5.cell 2 1 rfl rfl; have c2 := H5.cell 2 2 rfl rfl; have c3 := H5.cell 2 3 rfl rfl; have c4 := H5.cell 2 4 rfl rfl; have c5 := H5.cell 2 5 rfl rfl; obtain ⟨kn, rfl⟩ : ∃ n : Nat, kk = (n : Int) := ⟨kk.toNat, by have := (hk6h.out rfl).1; omega⟩
      have hkn := hk6h.out rfl; have ki := fun w' => doc_insert (h := .slice none 0 0) (l := []) v (k := kn) w' (by simp) (by omega) (IntsRO.nil w')
      have hins : (insD v []).take kn = [v] := by unfold insD; exact List.take_of_length_le (by simp; omega)
      rw [hins] at ki; clear hins; go_upto_region 21 with (go_at_call 233; go_must (refine (ki _).mono ?_; rintro e w6 ⟨hv6, rfl, G1⟩; obtain ⟨ta, tc, rfl, -, -⟩ := slice_form' (G1.row 0 rfl); have H6 := H5.call0 G1; clear a0 a1 a2 a3 p0 p1 p2 p3 c0 c1 c2 c3 c4 c5; have a0 := H6.cell 1 0 rfl rfl; have a1 := H6.cell 1 1 rfl rfl; have a2 := H6.cell 1 2 rfl rfl; have a3 := H6.cell 1 3 rfl rfl; have p0 := H6.free 1 0 rfl; have p1 := H6.free 1 1 rfl; have p2 := H6.free 1 2 rfl; have p3 := H6.free 1 3 rfl))
      have H7 := H6.set 1 rfl 2 (.slice ta 1 tc); obtain ⟨w7, hw7⟩ := zNm (w6.setCell ⟨ab, 2, none⟩ (.slice ta 1 tc)); rw [hw7] at H7; (try rw [hw7]); clear hw7 H5 H6 a0 a1 a2 a3 p0 p1 p2 p3 ki; have HF : zS w w7 [Row 3 1 (.slice ta 1 tc) 1 (intCells [v]), Blk ab #[.int .i64 1, .int .i64 0, .slice ta 1 tc, .complex .f64 0 0] 66, zhP rb, Blk b #[.int .i64 kd, .int .i64 sz, .int .i64 sl, .int .i64 lt, .int .i64 6, .int .i64 (kn : Int)] 23] := H7; have a0 := HF.cell 1 0 rfl rfl; have a1 := HF.cell 1 1 rfl rfl; have a2 := HF.cell 1 2 rfl rfl; have a3 := HF.cell 1 3 rfl rfl; have c0 := HF.cell 3 0 rfl rfl; have c1 := HF.cell 3 1 rfl rfl; have c2 := HF.cell 3 2 rfl rfl; have c3 := HF.cell 3 3 rfl rfl; have c4 := HF.cell 3 4 rfl rfl; have c5 := HF.cell 3 5 rfl rfl
      go_wp2_with (go_at_call 179; go_must (refine (St.callPast (kr _ _ (ints_own (HF.row 0 rfl) (by intro z hz; obtain rfl := List.mem_singleton.1 hz; omega))) HF).mono ?_; rintro e w8 ⟨rfl, HG⟩))
      go_roundw
      case rel => exact .inr ⟨by first | rfl | go_num, _, _, HG⟩
      case measure => simp [intOf]
    · have hs : singleM ⟨kd, sz, sl, lt, 7, kk⟩ v = ⟨1, 0, [], turnX v, turnY v⟩ := rfl; rw [hs] at hsgh; have hs2 := hsgh.out; simp only [Ag.mk.injEq, true_and] at hs2; obtain ⟨e1, e2, e3, e4⟩ := hs2; subst e1 e2 e3 e4; clear hs hsgh; have c0 := H5.cell 2 0 rfl rfl; have c1 := H5.cell 2 1 rfl rfl; have c2 := H5.cell 2 2 rfl rfl; have c3 := H5.cell 2 3 rfl rfl; have c4 := H5.cell 2 4 rfl rfl; have c5 := H5.cell 2 5 rfl rfl
      have tb : (turnX v).natAbs ≤ 1 ∧ (turnY v).natAbs ≤ 1 := by
       unfold turnX turnY
       constructor <;> (split <;> first | decide | (split <;> decide))
      have kt := fun w' => doc_turn (v := v) (by omega) w'
      have hX2 := hXh.out; have hY2 := hYh.out; obtain ⟨tx, htx⟩ := zNm (turnX v); obtain ⟨ty, hty⟩ := zNm (turnY v); rw [htx, hty] at kt tb; rw [htx] at hX2; rw [hty] at hY2; clear htx hty; have cs := fun (t : TypeId) w' => ib_sum (x := 0) (y := 0) (u := tx) (v := ty) (by decide) (by decide) (by omega) (by omega) t w'
      rw [ib_zero] at cs; simp only [Int.zero_add, hX2, hY2] at cs; have i1 : FloatKind.f64.encode (.number (decide (tx < 0)) tx.natAbs 0) = X := hX2; have i2 : FloatKind.f64.encode (.number (decide (ty < 0)) ty.natAbs 0) = Y := hY2; have i3 : floatOfInt .f64 tx = X := hX2; have i4 : floatOfInt .f64 ty = Y := hY2; clear hX2 hY2
      go_upto_region 20 with (first
       | (go_at_call 234; go_must (refine (St.callPast (kt _) H5).mono ?_; rintro e w6 ⟨rfl, H6⟩; have H7 := H6.allocAt rfl #[.int .i64 0, .int .i64 0] 290))
       | ((with_reducible show Go.wpList _ _ _ (Oper.mk none (Op.store 290 (Operand.tmp 9) _) _ _ _ _ :: _) _ _); go_must (refine St.list_store H7 0 rfl rfl 290 (.tmp 9) (.tmp 67) rfl #[.int .i64 tx, .int .i64 ty] rfl rfl (by kernel_rfl) rfl (by simp [Value.oneCell']) ?_; intro w7 H8 hz8; clear hz8)))
      obtain ⟨pb, hpb⟩ := zNm w6.heap.size; rw [hpb] at H8; (try simp only [hpb]); have H8 : zS w w7 [Blk pb #[.int .i64 tx, .int .i64 ty] 290, zciP ab, zhP rb, zcdP b kd sz sl lt kk] := H8; clear hpb H7 H6 H5 kt c0 c1 c2 c3 c4 c5; have t0 := H8.cell 0 0 rfl rfl; have t1 := H8.cell 0 1 rfl rfl; have a0 := H8.cell 1 0 rfl rfl; have a1 := H8.cell 1 1 rfl rfl; have a2 := H8.cell 1 2 rfl rfl; have a3 := H8.cell 1 3 rfl rfl; have p0 := H8.free 1 0 rfl; have p1 := H8.free 1 1 rfl; have p2 := H8.free 1 2 rfl; have p3 := H8.free 1 3 rfl; have H9 := H8.set 1 rfl 3 (.complex .f64 X Y); go_upto_region 21 with (fail)
      obtain ⟨w9, hw9⟩ := zNm (w7.setCell ⟨ab, 3, none⟩ (.complex .f64 X Y)); rw [hw9] at H9; (try rw [hw9]); clear hw9 H8 t0 t1 a0 a1 a2 a3 p0 p1 p2 p3 cs i1 i2 i3 i4; have H9 : zS w w9 [Blk pb #[.int .i64 tx, .int .i64 ty] 290, zcgP ab X Y, zhP rb, zcdP b kd sz sl lt kk] := H9; have HF : zS w w9 [zceP (intCells []), zcgP ab X Y, zhP rb, zcdP b kd sz sl lt kk] := (H9.row_nil 3 1).pick [0, 2, 3, 4]; have a0 := HF.cell 1 0 rfl rfl; have a1 := HF.cell 1 1 rfl rfl; have a2 := HF.cell 1 2 rfl rfl; have a3 := HF.cell 1 3 rfl rfl; have c0 := HF.cell 3 0 rfl rfl; have c1 := HF.cell 3 1 rfl rfl; have c2 := HF.cell 3 2 rfl rfl; have c3 := HF.cell 3 3 rfl rfl; have c4 := HF.cell 3 4 rfl rfl; have c5 := HF.cell 3 5 rfl rfl
      go_wp2_with (go_at_call 179; go_must (refine (St.callPast (kr _ _ (IntsRO.nil _)) HF).mono ?_; rintro e w8 ⟨rfl, HG⟩))
      go_roundw
      case rel => exact .inr ⟨by first | rfl | go_num, _, _, HG⟩
      case measure => simp [intOf]
  · have a0 := HM.cell 1 0 rfl rfl; have a1 := HM.cell 1 1 rfl rfl; have a2 := HM.cell 1 2 rfl rfl; have a3 := HM.cell 1 3 rfl rfl
    go_wp2_with ((with_reducible show Go.wpList _ _ _ (Oper.mk none (Op.store 66 (Operand.tmp 4) _) _ _ _ _ :: _) _ _); go_must (refine St.list_store HM 2 rfl rfl 66 (.tmp 4) (.tmp 85) rfl #[.int .i64 1, .int .i64 A, .slice ta T.length tc, .complex .f64 X Y] rfl rfl (by kernel_rfl) rfl (by simp [Value.oneCell']) ?_; intro w9 HN hz9; clear hz9))
    try simp only [Exit.inBlock, Exit.then]
    refine bodyPost_ret (results_agt rfl rfl (blk_ag (cs := [.int .i64 1, .int .i64 A, .slice ta T.length tc, .complex .f64 X Y]) (HN.blk 2 rfl)) Tryz.underlying66 rfl (by kernel_rfl)) rfl ?_
    exact ⟨.slice ta T.length tc, rfl, HN.pick [0]⟩
end Go.Proofs.YtiglgfonhdfpmaaGreat
namespace Go.Proofs.YtiglgfonhdfpmaaGreat
theorem top_right {q : Qry} {g : Ag} (h : g.right q = true) : topB q g.n g.top = true := (Ag.right_iff.1 h).2.2.2.2.1
theorem q_k {q : Qry} (hq : q.right = true) (h : q.agg = 6) : 1 ≤ q.k ∧ q.k ≤ 8 := by
 unfold Qry.right Qry.kB at hq; simp only [Bool.and_eq_true, decide_eq_true_eq] at hq; have := hq.2; rw [if_pos h] at this
 simpa using this
theorem sum_top {q : Qry} {a b : Ag} (ha : a.right q = true) (hb : b.right q = true) : topB q (a.n + b.n) (topM q a.top b.top) = true := by
 have hq := (Ag.right_iff.1 ha).1; have na := (right_nums ha).2.1; have nb := (right_nums hb).2.1
 by_cases h6 : q.agg = 6
 · have hk := q_k hq h6; rcases topB_iff.1 (top_right ha) with ⟨-, a2, a3, a4⟩ | ⟨h, -⟩
   · rcases topB_iff.1 (top_right hb) with ⟨-, b2, b3, b4⟩ | ⟨h, -⟩
     · refine topB_iff.2 (.inl ⟨h6, ?_, ?_, ?_⟩)
       · unfold topM; rw [if_pos h6, List.length_take, sortD_len, List.length_append]
         omega
       · unfold topM; rw [if_pos h6]; exact List.Pairwise.sublist (List.take_sublist _ _) (sortD_fall _)
       · unfold topM; rw [if_pos h6]; intro v hv; have h1 := (sortD_mem _ v).1 (List.mem_of_mem_take hv); rcases List.mem_append.1 h1 with h1 | h1
         · exact a4 v h1
         · exact b4 v h1
     · exact absurd h6 h
   · exact absurd h6 h
 · refine topB_iff.2 (.inr ⟨h6, ?_⟩); unfold topM; rw [if_neg h6]
def laidTop (q : Qry) (a b : List Int) (i : Nat) : List Int := (b.take i).foldl (fun t v => (insD v t).take q.k.toNat) a
theorem laid_zero (q : Qry) (a b : List Int) : laidTop q a b 0 = a := rfl
theorem laid_succ {q : Qry} {a b : List Int} {i : Nat} {v : Int} (hv : b[i]? = some v) : laidTop q a b (i + 1) = (insD v (laidTop q a b i)).take q.k.toNat := by
 unfold laidTop; rw [take_snoc' hv, List.foldl_append]
 rfl
theorem laid_all {q : Qry} {a b : Ag} (ha : a.right q = true) (hb : b.right q = true) : laidTop q a.top b.top b.top.length = topM q a.top b.top := by
 unfold laidTop topM; rw [List.take_length]; rcases topB_iff.1 (top_right ha) with ⟨h6, a2, a3, a4⟩ | ⟨h6, e⟩
 · have hk := q_k (Ag.right_iff.1 ha).1 h6; rw [if_pos h6]; exact foldTop a3 (by omega)
 · rw [if_neg h6, e]; rcases topB_iff.1 (top_right hb) with ⟨h, -⟩ | ⟨-, e2⟩
   · exact absurd h h6
   · rw [e2]
     rfl
theorem laid_len {q : Qry} {a b : Ag} (ha : a.right q = true) (hb : b.right q = true) {i : Nat} : (laidTop q a.top b.top i).length ≤ 8 := by
 have hl := (right_nums ha).2.2.2.1; rcases topB_iff.1 (top_right hb) with ⟨h6, -⟩ | ⟨h6, e⟩
 · have hk := q_k (Ag.right_iff.1 ha).1 h6
   have key : ∀ (l : List Int) (t : List Int), t.length ≤ 8 → (l.foldl (fun t v => (insD v t).take q.k.toNat) t).length ≤ 8 := by
    intro l
    induction l with
    | nil => exact fun t h => h
    | cons v l ih =>
     intro t ht; refine ih _ ?_; rw [List.length_take]
     omega
   exact key _ _ hl
 · unfold laidTop; rw [e]
   simpa using hl
theorem laid_mem {q : Qry} {a b : List Int} {i : Nat} : ∀ z ∈ laidTop q a b i, z ∈ a ∨ z ∈ b := by
 have key : ∀ (l t : List Int), ∀ z ∈ l.foldl (fun t v => (insD v t).take q.k.toNat) t, z ∈ t ∨ z ∈ l := by
  intro l
  induction l with
  | nil => exact fun t z h => .inl h
  | cons v l ih =>
   intro t z hz; rcases ih _ z hz with h | h
   · rcases (insD_mem v t z).1 (List.mem_of_mem_take h) with h | h
     · exact .inr (by rw [h]; exact List.mem_cons_self)
     · exact .inl h
   · exact .inr (List.mem_cons_of_mem _ h)
 intro z hz; rcases key _ _ z hz with h | h
 · exact .inl h
 · exact .inr (List.mem_of_mem_take h)
end Go.Proofs.YtiglgfonhdfpmaaGreat
