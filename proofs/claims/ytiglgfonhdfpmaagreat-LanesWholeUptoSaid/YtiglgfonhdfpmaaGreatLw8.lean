import Derived.Test.YtiglgfonhdfpmaaGreatLw1
import Derived.Test.YtiglgfonhdfpmaaGreatLw2
import Derived.Test.YtiglgfonhdfpmaaGreatLw3
import Derived.Test.YtiglgfonhdfpmaaGreatLw4
import Derived.Test.YtiglgfonhdfpmaaGreatLw5
import Derived.Test.YtiglgfonhdfpmaaGreatLw7
import Derived.Deep.CutBlock
import Derived.Lib.ItoaNum
import Derived.Lib.AtoiAll
import Derived.Lib.Split
import Derived.Lib.SplitLaws
import Derived.Lib.IndexLaws
import Derived.Lib.CountLaws
/- The walk of the aggregates' Merge. Condition: what is known is right. -/
set_option linter.unusedVariables false
set_option linter.unusedSimpArgs false
namespace Go.Proofs.YtiglgfonhdfpmaaGreat
open Go.RowKit

theorem results_agt {P : Program} {fn : Func} {t c : Tmp} {ty : TypeId} (h : fn.results = #[.cell t ty, .tmp c]) {tmps : Array Value} {w : World} {b : Nat} {cs : List Value} {d : TypeDesc} (ht : tmps.getD t undef = .pointer (some ⟨b, 0, none⟩)) (hr : w.rangeAt b 0 cs)
    (hu : P.underlying ty = some d) (hd : d.isRow = true) (hi : (P.info? ty).map (·.size) = some cs.length) : (results fn tmps).run P w = .ok (.tuple #[.agg cs.toArray, tmps.getD c undef]) w := by
  have h2 := run_loadVar_mid (P := P) w b 0 ty cs d hr hu hd hi
  have h3 : tmps[t]?.getD undef = .pointer (some ⟨b, 0, none⟩) := by simpa using ht
  simp [results, h, h3, asAddr, h2]
/-- Two joined, and the code. -/
def mergeC (q : Qry) (a b : Ag) : Ag × Int := match mergeM q a b with
  | some g => (g, 0)
  | none => (Ag.zero, 20)
set_option maxHeartbeats 4000000 in
set_option maxRecDepth 100000 in
theorem agg_merge (q : Qry) (g1 g2 : Ag) {hv hu : Value} (w : World) (hr1 : IntsRO w hv g1.top) (hr2 : IntsRO w hu g2.top) (hg1 : g1.right q = true) (hg2 : g2.right q = true) :
    Calls Tryz.prog 249 #[qyV q, agV g1 hv, agV g2 hu] w fun e w' => ∃ h, e = .returned (.tuple #[agV (mergeC q g1 g2).1 h, .int .i64 (mergeC q g1 g2).2]) ∧ St (fun _ => False) w w' [Row 3 1 h (mergeC q g1 g2).1.top.length (intCells (mergeC q g1 g2).1.top)] := by
  obtain ⟨⟨a1, a7⟩, ⟨n0, nm⟩, ha, htl, px, py, hx, hy⟩ := right_nums hg1
  obtain ⟨-, ⟨m0, mm⟩, ha', htl', px', py', hx', hy'⟩ := right_nums hg2
  have kr1 := fun w' (h : IntsRO w' hv g1.top) => agg_right q g1 w' h (by omega) (by omega) (by omega)
  have kr2 := fun w' (h : IntsRO w' hu g2.top) => agg_right q g2 w' h (by omega) (by omega) (by omega)
  rw [hg1] at kr1
  rw [hg2] at kr2
  have kc1 := fun w' (h : IntsRO w' hv g1.top) => agg_copied g1 w' h (by omega)
  have kc2 := fun w' (h : IntsRO w' hu g2.top) => agg_copied g2 w' h (by omega)
  have kv := fun w' => gauss_add (x := g1.x) (y := g1.y) (u := g2.x) (v := g2.y) (by omega) (by omega) (by omega) (by omega) w'
  have kj := fun w' => agg_joined q (a := g1.a) (b := g2.a) ha ha' w'
  have hr10 := hr1
  have hr20 := hr2
  obtain ⟨ad1, cp1, rfl, -⟩ := hr1
  obtain ⟨ad2, cp2, rfl, -⟩ := hr2
  obtain ⟨M, hM⟩ : ∃ M, mergeC q g1 g2 = M := ⟨_, rfl⟩
  have hf0 : g1.n = 0 → M = (g2, 0) := fun h => by rw [← hM]; unfold mergeC mergeM; rw [if_pos h]
  have hf1 : g1.n ≠ 0 → g2.n = 0 → M = (g1, 0) := fun h h2 => by rw [← hM]; unfold mergeC mergeM; rw [if_neg h, if_pos h2]
  have hf2 : g1.n ≠ 0 → g2.n ≠ 0 → M = if (sumM q g1 g2).right q = true then (sumM q g1 g2, 0) else (Ag.zero, 20) := fun h h2 => by
    rw [← hM]; unfold mergeC mergeM; rw [if_neg h, if_neg h2]
    split <;> rename_i h3 <;> split at h3 <;> simp_all
  rw [hM]
  clear hM
  have hsix : q.agg = 6 → g1.n ≠ 0 → 0 < g1.top.length ∧ 1 ≤ q.k ∧ q.k ≤ 8 := fun h6 hn => by
    obtain ⟨e1, e2, e3, e4, e5, -⟩ := Ag.right_iff.1 hg1
    have hk : q.kB = true := by
      unfold Qry.right at e1
      simp only [Bool.and_eq_true] at e1
      exact e1.2
    unfold Qry.kB at hk
    rw [if_pos h6] at hk
    simp only [Bool.and_eq_true, decide_eq_true_eq] at hk
    rcases topB_iff.1 e5 with ⟨-, hl, -⟩ | ⟨h, -⟩
    · exact ⟨by omega, hk⟩
    · exact absurd h6 h
  have hsix := Lib.hid hsix
  have hf0 := Lib.hid hf0
  have hf1 := Lib.hid hf1
  have hf2 := Lib.hid hf2
  obtain ⟨kd, sz, sl, lt, ag, kk⟩ := q
  obtain ⟨n, a, tp, x, y⟩ := g1
  obtain ⟨m, c, tq, u, v⟩ := g2
  simp only at *
  unfold qyV agV qyC agC at *
  simp only at *
  obtain ⟨X, hX⟩ : ∃ X, ib x = X := ⟨_, rfl⟩
  obtain ⟨Y, hY⟩ : ∃ Y, ib y = Y := ⟨_, rfl⟩
  obtain ⟨U, hU⟩ : ∃ U, ib u = U := ⟨_, rfl⟩
  obtain ⟨W, hW⟩ : ∃ W, ib v = W := ⟨_, rfl⟩
  simp only [hX, hY, hU, hW] at kr1 kr2 kc1 kc2 kv ⊢
  have hX := Lib.hid hX
  have hY := Lib.hid hY
  have hU := Lib.hid hU
  have hW := Lib.hid hW
  obtain ⟨b, hb⟩ : ∃ g, w.heap.size = g := ⟨_, rfl⟩
  obtain ⟨b2, hb2⟩ : ∃ b2, b + 1 = b2 := ⟨_, rfl⟩
  obtain ⟨b3, hb3⟩ : ∃ b3, b2 + 1 = b3 := ⟨_, rfl⟩
  obtain ⟨b4, hb4⟩ : ∃ b4, b3 + 1 = b4 := ⟨_, rfl⟩
  have sz1 : ∀ (w : World) (o : Obj), (w.alloc o).heap.size = w.heap.size + 1 := fun w o => Array.size_push _
  have H0 : St (fun _ => False) w _ [_] := (St.nil _ w).allocAt hb #[.int .i64 kd, .int .i64 sz, .int .i64 sl, .int .i64 lt, .int .i64 ag, .int .i64 kk] 23
  have H1 := H0.allocAt (B := b2) (by rw [← hb2, ← hb]; exact Array.size_push _) #[.int .i64 n, .int .i64 a, .slice ad1 tp.length cp1, .complex .f64 X Y] 66
  have s2 : ((w.alloc (.cells #[.int .i64 kd, .int .i64 sz, .int .i64 sl, .int .i64 lt, .int .i64 ag, .int .i64 kk] 23)).alloc (.cells #[.int .i64 n, .int .i64 a, .slice ad1 tp.length cp1, .complex .f64 X Y] 66)).heap.size = b3 := by rw [sz1, sz1, hb, hb2, hb3]
  have H2 := H1.allocAt (B := b3) s2 #[.int .i64 m, .int .i64 c, .slice ad2 tq.length cp2, .complex .f64 U W] 66
  have s3 : (((w.alloc (.cells #[.int .i64 kd, .int .i64 sz, .int .i64 sl, .int .i64 lt, .int .i64 ag, .int .i64 kk] 23)).alloc (.cells #[.int .i64 n, .int .i64 a, .slice ad1 tp.length cp1, .complex .f64 X Y] 66)).alloc (.cells #[.int .i64 m, .int .i64 c, .slice ad2 tq.length cp2, .complex .f64 U W] 66)).heap.size = b4 := by rw [sz1, s2, hb4]
  have H := H2.allocAt (B := b4) s3 #[.int .i64 0, .int .i64 0, .slice none 0 0, .complex .f64 0 0] 66
  obtain ⟨w1, hw1⟩ : ∃ w1, (((w.alloc (.cells #[.int .i64 kd, .int .i64 sz, .int .i64 sl, .int .i64 lt, .int .i64 ag, .int .i64 kk] 23)).alloc (.cells #[.int .i64 n, .int .i64 a, .slice ad1 tp.length cp1, .complex .f64 X Y] 66)).alloc (.cells #[.int .i64 m, .int .i64 c, .slice ad2 tq.length cp2, .complex .f64 U W] 66)).alloc (.cells #[.int .i64 0, .int .i64 0, .slice none 0 0, .complex .f64 0 0] 66) = w1 := ⟨_, rfl⟩
  rw [hw1] at H
  go_enter Tryz.func249, Tryz.ntmps249
  go_upto_region 1 with (fail)
  try simp only [hb, hb2, hb3, hb4]
  try rw [hw1]
  clear hw1 hb hb2 hb3 hb4 H0 H1 H2 s2 s3 sz1
  have c0 := H.cell 3 0 rfl rfl
  have c1 := H.cell 3 1 rfl rfl
  have c2 := H.cell 3 2 rfl rfl
  have c3 := H.cell 3 3 rfl rfl
  have c4 := H.cell 3 4 rfl rfl
  have c5 := H.cell 3 5 rfl rfl
  have d0 := H.cell 2 0 rfl rfl
  have d1 := H.cell 2 1 rfl rfl
  have d2 := H.cell 2 2 rfl rfl
  have d3 := H.cell 2 3 rfl rfl
  have i0 := H.cell 1 0 rfl rfl
  have i1 := H.cell 1 1 rfl rfl
  have i2 := H.cell 1 2 rfl rfl
  have i3 := H.cell 1 3 rfl rfl
  go_upto_region 3 with (go_at_call 80; go_must (first
    | (with_reducible refine (St.callPast (kr1 _ (hr10.later H.kept)) H).mono ?_; clear c0 c1 c2 c3 c4 c5 d0 d1 d2 d3 i0 i1 i2 i3 H; rintro e w2 ⟨rfl, H⟩; have c0 := H.cell 3 0 rfl rfl; have c1 := H.cell 3 1 rfl rfl; have c2 := H.cell 3 2 rfl rfl; have c3 := H.cell 3 3 rfl rfl; have c4 := H.cell 3 4 rfl rfl; have c5 := H.cell 3 5 rfl rfl; have d0 := H.cell 2 0 rfl rfl; have d1 := H.cell 2 1 rfl rfl; have d2 := H.cell 2 2 rfl rfl; have d3 := H.cell 2 3 rfl rfl; have i0 := H.cell 1 0 rfl rfl; have i1 := H.cell 1 1 rfl rfl; have i2 := H.cell 1 2 rfl rfl; have i3 := H.cell 1 3 rfl rfl)
    | (with_reducible refine (St.callPast (kr2 _ (hr20.later H.kept)) H).mono ?_; clear c0 c1 c2 c3 c4 c5 d0 d1 d2 d3 i0 i1 i2 i3 H; rintro e w2 ⟨rfl, H⟩; have c0 := H.cell 3 0 rfl rfl; have c1 := H.cell 3 1 rfl rfl; have c2 := H.cell 3 2 rfl rfl; have c3 := H.cell 3 3 rfl rfl; have c4 := H.cell 3 4 rfl rfl; have c5 := H.cell 3 5 rfl rfl; have d0 := H.cell 2 0 rfl rfl; have d1 := H.cell 2 1 rfl rfl; have d2 := H.cell 2 2 rfl rfl; have d3 := H.cell 2 3 rfl rfl; have i0 := H.cell 1 0 rfl rfl; have i1 := H.cell 1 1 rfl rfl; have i2 := H.cell 1 2 rfl rfl; have i3 := H.cell 1 3 rfl rfl)))
  clear kr2
  by_cases hn : n = 0
  · have y0 : (n == 0) = true := by simpa using hn
    have hf := Lib.hid (hf0.out hn)
    have kc := kc2 _ (hr20.later H.kept)
    clear hf0 hf1 hf2 hn kc1 kc2 kr1
    go_upto_region 4 with (fail)
    go_wp2_with (go_at_call 283; go_must (refine kc.mono ?_; rintro e w3 ⟨h3, rfl, G1⟩; clear c0 c1 c2 c3 c4 c5 d0 d1 d2 d3 i0 i1 i2 i3; have H3 := H.call0 G1; obtain ⟨a3, c3, rfl, -, -⟩ := slice_form' (H3.row 0 rfl); have r0 := H3.free 1 0 rfl; have r1 := H3.free 1 1 rfl; have r2 := H3.free 1 2 rfl; have r3 := H3.free 1 3 rfl; have x0 := H3.cell 1 0 rfl rfl; have x1 := H3.cell 1 1 rfl rfl; have x2 := H3.cell 1 2 rfl rfl; have x3 := H3.cell 1 3 rfl rfl; have HR := (((H3.set 1 rfl 0 (.int .i64 m)).set 1 rfl 1 (.int .i64 c)).set 1 rfl 2 (.slice a3 tq.length c3)).set 1 rfl 3 (.complex .f64 U W)))
    try simp only [Exit.inBlock, Exit.then]
    refine bodyPost_ret (results_agt rfl rfl (blk_ag (cs := [.int .i64 m, .int .i64 c, .slice a3 tq.length c3, .complex .f64 U W]) (HR.blk 1 rfl)) Tryz.underlying66 rfl (by kernel_rfl)) rfl ?_
    rw [hf.out]
    refine ⟨.slice a3 tq.length c3, ?_, HR.pick [0]⟩
    simp only [hU.out, hW.out]
    rfl
  have y0 : (n == 0) = false := by simpa using hn
  go_upto_region 5 with (fail)
  by_cases hm : m = 0
  · have y1 : (m == 0) = true := by simpa using hm
    have hf := Lib.hid (hf1.out hn hm)
    have kc := kc1 _ (hr10.later H.kept)
    clear hf0 hf1 hf2 hn hm kc1 kc2 kr1
    go_upto_region 6 with (fail)
    go_wp2_with (go_at_call 283; go_must (refine kc.mono ?_; rintro e w3 ⟨h3, rfl, G1⟩; clear c0 c1 c2 c3 c4 c5 d0 d1 d2 d3 i0 i1 i2 i3; have H3 := H.call0 G1; obtain ⟨a3, c3, rfl, -, -⟩ := slice_form' (H3.row 0 rfl); have r0 := H3.free 1 0 rfl; have r1 := H3.free 1 1 rfl; have r2 := H3.free 1 2 rfl; have r3 := H3.free 1 3 rfl; have x0 := H3.cell 1 0 rfl rfl; have x1 := H3.cell 1 1 rfl rfl; have x2 := H3.cell 1 2 rfl rfl; have x3 := H3.cell 1 3 rfl rfl; have HR := (((H3.set 1 rfl 0 (.int .i64 n)).set 1 rfl 1 (.int .i64 a)).set 1 rfl 2 (.slice a3 tp.length c3)).set 1 rfl 3 (.complex .f64 X Y)))
    try simp only [Exit.inBlock, Exit.then]
    refine bodyPost_ret (results_agt rfl rfl (blk_ag (cs := [.int .i64 n, .int .i64 a, .slice a3 tp.length c3, .complex .f64 X Y]) (HR.blk 1 rfl)) Tryz.underlying66 rfl (by kernel_rfl)) rfl ?_
    rw [hf.out]
    refine ⟨.slice a3 tp.length c3, ?_, HR.pick [0]⟩
    simp only [hX.out, hY.out]
    rfl
  have y1 : (m == 0) = false := by simpa using hm
  have hf := Lib.hid (hf2.out hn hm)
  have hsix := Lib.hid (fun h6 => hsix.out h6 hn)
  clear hf0 hf1 hf2 hn hm kc1 kc2
  clear kr1
  obtain ⟨J, hJ⟩ : ∃ J, joinedM ⟨kd, sz, sl, lt, ag, kk⟩ a c = J := ⟨_, rfl⟩
  simp only [hJ] at kj
  have hJ := Lib.hid hJ
  obtain ⟨⟨vx, vy, cd⟩, hr⟩ : ∃ r, addM x y u v = r := ⟨_, rfl⟩
  simp only [hr] at kv
  have hr := Lib.hid hr
  obtain ⟨VX, hVX⟩ : ∃ X, ib vx = X := ⟨_, rfl⟩
  obtain ⟨VY, hVY⟩ : ∃ X, ib vy = X := ⟨_, rfl⟩
  simp only [hVX, hVY] at kv
  have hVX := Lib.hid hVX
  have hVY := Lib.hid hVY
  go_upto_region 8 with (go_at_call 284; go_must (refine (kv _).mono ?_; rintro e w3 ⟨rfl, e3⟩; rw [e3]; clear e3))
  clear c0 c1 c2 c3 c4 c5 d0 d1 d2 d3 i0 i1 i2 i3 kv
  have hs : IntKind.i64.wrap (n + m) = n + m := by rw [IntKind.wrap_i64]; omega
  refine wp_script [(0, false), (1, false), (2, false), (3, false), (4, false), (5, false), (6, false), (7, false), (8, false), (9, false), (10, false), (11, false), (12, false), (13, true), (14, true)] (Fam fun w' => St (fun _ => False) w w' [Blk b4 #[.int .i64 0, .int .i64 0, .slice none 0 0, .complex .f64 0 0] 66, Blk b3 #[.int .i64 m, .int .i64 c, .slice ad2 tq.length cp2, .complex .f64 U W] 66, Blk b2 #[.int .i64 n, .int .i64 a, .slice ad1 tp.length cp1, .complex .f64 X Y] 66, Blk b #[.int .i64 kd, .int .i64 sz, .int .i64 sl, .int .i64 lt, .int .i64 ag, .int .i64 kk] 23]) (fun w' => St (fun _ => False) w w' [Blk b4 #[.int .i64 0, .int .i64 0, .slice none 0 0, .complex .f64 0 0] 66, Blk b3 #[.int .i64 m, .int .i64 c, .slice ad2 tq.length cp2, .complex .f64 U W] 66, Blk b2 #[.int .i64 n, .int .i64 a, .slice ad1 tp.length cp1, .complex .f64 X Y] 66, Blk b #[.int .i64 kd, .int .i64 sz, .int .i64 sl, .int .i64 lt, .int .i64 ag, .int .i64 kk] 23]) (by kernel_rfl) (by rfl) (by kernel_rfl) (by kernel_rfl) H.drew (Fam.st (fun _ h => h)) ?_
  iterate 13 first
    | (apply script_pass
       · rfl
       · rfl
       intro K hK
       go_simp
       refine hK _ ?_
       clear hK K)
    | (apply script_step
       · rfl
       · rfl
       · intro I hI w1 h1'
         have h1 := hI.2 _ h1'
         have c0 := h1.cell 3 0 rfl rfl
         have c1 := h1.cell 3 1 rfl rfl
         have c2 := h1.cell 3 2 rfl rfl
         have c3 := h1.cell 3 3 rfl rfl
         have c4 := h1.cell 3 4 rfl rfl
         have c5 := h1.cell 3 5 rfl rfl
         have d0 := h1.cell 2 0 rfl rfl
         have d1 := h1.cell 2 1 rfl rfl
         have i0 := h1.cell 1 0 rfl rfl
         have i1 := h1.cell 1 1 rfl rfl
         first
           | (go_simp
              first
                | rfl
                | exact ⟨rfl, h1'⟩
                | (go_at_call 285; with_reducible exact Fam.call hI h1' (kj w1))
             )
       intro K hK
       go_simp
       refine hK _ ?_
       clear hK K)
  refine script_alone rfl rfl ?_
  intro V hV w1 h1
  go_simp
  obtain ⟨b5, hgn⟩ : ∃ g, w1.heap.size = g := ⟨_, rfl⟩
  have H3 := h1.allocAt hgn #[.int .i64 0, .int .i64 0, .slice none 0 0, .complex .f64 0 0] 66
  simp only [hgn]
  refine ⟨fun w' => St (fun _ => False) w w' [Blk b5 #[.int .i64 0, .int .i64 0, .slice none 0 0, .complex .f64 0 0] 66, Blk b4 #[.int .i64 0, .int .i64 0, .slice none 0 0, .complex .f64 0 0] 66, Blk b3 #[.int .i64 m, .int .i64 c, .slice ad2 tq.length cp2, .complex .f64 U W] 66, Blk b2 #[.int .i64 n, .int .i64 a, .slice ad1 tp.length cp1, .complex .f64 X Y] 66, Blk b #[.int .i64 kd, .int .i64 sz, .int .i64 sl, .int .i64 lt, .int .i64 ag, .int .i64 kk] 23], hV _ _ _ (fun _ h => h) (Fam.st (fun _ h => h.pick [1, 2, 3, 4])) ?_, H3⟩
  intro K hK
  go_simp
  refine hK _ ?_
  clear hK K hV V
  clear H3 h1 hgn w1
  refine script_alone rfl rfl ?_
  intro V hV w1 h1
  have r0 := h1.free 0 0 rfl
  have r1 := h1.free 0 1 rfl
  have r2 := h1.free 0 2 rfl
  have r3 := h1.free 0 3 rfl
  have x0 := h1.cell 0 0 rfl rfl
  have x1 := h1.cell 0 1 rfl rfl
  have x2 := h1.cell 0 2 rfl rfl
  have x3 := h1.cell 0 3 rfl rfl
  have H4 := (((h1.set 0 rfl 0 (.int .i64 (n + m))).set 0 rfl 1 (.int .i64 J)).set 0 rfl 2 (.slice none 0 0)).set 0 rfl 3 (.complex .f64 VX VY)
  go_simp
  refine ⟨fun w' => St (fun _ => False) w w' [Blk b5 #[.int .i64 (n + m), .int .i64 J, .slice none 0 0, .complex .f64 VX VY] 66, Blk b4 #[.int .i64 0, .int .i64 0, .slice none 0 0, .complex .f64 0 0] 66, Blk b3 #[.int .i64 m, .int .i64 c, .slice ad2 tq.length cp2, .complex .f64 U W] 66, Blk b2 #[.int .i64 n, .int .i64 a, .slice ad1 tp.length cp1, .complex .f64 X Y] 66, Blk b #[.int .i64 kd, .int .i64 sz, .int .i64 sl, .int .i64 lt, .int .i64 ag, .int .i64 kk] 23], hV _ _ _ (fun _ h => h) (Fam.st (fun _ h => h.pick [1, 2, 3, 4])) ?_, H4⟩
  intro K hK
  go_simp
  refine hK _ ?_
  clear hK K hV V
  clear H4 h1 w1 r0 r1 r2 r3 x0 x1 x2 x3
  refine script_nil ?_
  intro w9 H9
  clear H kj hs
  have c4 := H9.cell 4 4 rfl rfl
  have c5 := H9.cell 4 5 rfl rfl
  go_upto_if 58 with (fail)
  go_cut [] from 58 to 79 (fun wx => ∃ T at1 ct, T = topM ⟨kd, sz, sl, lt, ag, kk⟩ tp tq ∧ IntsRO wx (.slice at1 T.length ct) T ∧ St (fun _ => False) w wx [Blk b5 #[.int .i64 (n + m), .int .i64 J, .slice at1 T.length ct, .complex .f64 VX VY] 66, Blk b4 #[.int .i64 0, .int .i64 0, .slice none 0 0, .complex .f64 0 0] 66, Blk b3 #[.int .i64 m, .int .i64 c, .slice ad2 tq.length cp2, .complex .f64 U W] 66, Blk b2 #[.int .i64 n, .int .i64 a, .slice ad1 tp.length cp1, .complex .f64 X Y] 66, Blk b #[.int .i64 kd, .int .i64 sz, .int .i64 sl, .int .i64 lt, .int .i64 ag, .int .i64 kk] 23, Row 3 1 (.slice at1 T.length ct) T.length (intCells T)])
  case first =>
    clear hf hr hVX hVY hX hY hU hW hJ
    by_cases h6 : ag = 6
    · have y6 : (ag == 6) = true := by simpa using h6
      obtain ⟨l1, k1, k8⟩ := hsix.out h6
      have hT := Lib.hid (show topM ⟨kd, sz, sl, lt, ag, kk⟩ tp tq = (sortD (tp ++ tq)).take kk.toNat by unfold topM; rw [if_pos h6])
      clear h6 hsix
      obtain ⟨L, hL⟩ : ∃ L, tp.length + tq.length = L := ⟨_, rfl⟩
      have hLl : (sortD (tp ++ tq)).length = L := by rw [sortD_len, List.length_append, hL]
      obtain ⟨t, ht⟩ : ∃ t : Nat, min L kk.toNat = t := ⟨_, rfl⟩
      have hmin : min (L : Int) kk = (t : Int) := by omega
      have hmin2 : (if (L : Int) < kk then (L : Int) else kk) = (t : Int) := by split <;> omega
      have hT2 := Lib.hid (show topM ⟨kd, sz, sl, lt, ag, kk⟩ tp tq = (sortD (tp ++ tq)).take t by
        rw [hT.out, ← ht, ← hLl]
        rw [Nat.min_comm]
        exact List.take_eq_take_min)
      clear hT
      have d2 := H9.cell 3 2 rfl rfl
      have i2 := H9.cell 2 2 rfl rfl
      obtain ⟨b6, hb6⟩ : ∃ g, w9.heap.size = g := ⟨_, rfl⟩
      have H10 := H9.allocAt hb6 #[.slice ad1 tp.length cp1, .slice ad2 tq.length cp2] 33
      have kcc := ints_concat (g := b6) _ (H10.blk_lt 0 rfl) (H10.cell 0 0 rfl rfl) (H10.cell 0 1 rfl rfl) (hr10.later H10.kept) (hr20.later H10.kept) (by omega)
      rw [hL] at kcc
      go_upto_region 11 with (go_at_call 286; go_must (refine kcc.mono ?_; rintro e w10 ⟨v10, rfl, G1⟩; clear d2 i2 c4 c5; have H11 := H10.call0 G1; obtain ⟨b7, c7, R7, rfl, hc7, -⟩ := H11.row_blk 0 rfl (by omega); have r2 := H11.free 2 2 rfl; have x2 := H11.cell 2 2 rfl rfl))
      have H12 := H11.set 2 rfl 2 (.slice (some ⟨b7, 0, none⟩) L c7)
      obtain ⟨w11, hw11⟩ : ∃ w11, w10.setCell ⟨b5, 2, none⟩ (.slice (some ⟨b7, 0, none⟩) L c7) = w11 := ⟨_, rfl⟩
      rw [hw11] at H12
      try rw [hw11]
      clear hw11 H11 H10 r2 x2 kcc hb6
      have H12 : St (fun _ => False) w w11 [Row 3 1 (.slice (some ⟨b7, 0, none⟩) L c7) L (intCells (tp ++ tq)), Blk b6 #[.slice ad1 tp.length cp1, .slice ad2 tq.length cp2] 33, Blk b5 #[.int .i64 (n + m), .int .i64 J, .slice (some ⟨b7, 0, none⟩) L c7, .complex .f64 VX VY] 66, Blk b4 #[.int .i64 0, .int .i64 0, .slice none 0 0, .complex .f64 0 0] 66, Blk b3 #[.int .i64 m, .int .i64 c, .slice ad2 tq.length cp2, .complex .f64 U W] 66, Blk b2 #[.int .i64 n, .int .i64 a, .slice ad1 tp.length cp1, .complex .f64 X Y] 66, Blk b #[.int .i64 kd, .int .i64 sz, .int .i64 sl, .int .i64 lt, .int .i64 ag, .int .i64 kk] 23] := H12
      have kso := ints_sort H12 0 rfl (by omega) (by omega)
      have x2 := H12.cell 2 2 rfl rfl
      go_upto_region 12 with (go_at_call 287; go_must (refine kso.mono ?_; rintro e w12 ⟨rfl, H13⟩; clear x2 kso))
      have H13 : St (fun _ => False) w w12 [Row 3 1 (.slice (some ⟨b7, 0, none⟩) L c7) L (intCells (sortD (tp ++ tq))), Blk b6 #[.slice ad1 tp.length cp1, .slice ad2 tq.length cp2] 33, Blk b5 #[.int .i64 (n + m), .int .i64 J, .slice (some ⟨b7, 0, none⟩) L c7, .complex .f64 VX VY] 66, Blk b4 #[.int .i64 0, .int .i64 0, .slice none 0 0, .complex .f64 0 0] 66, Blk b3 #[.int .i64 m, .int .i64 c, .slice ad2 tq.length cp2, .complex .f64 U W] 66, Blk b2 #[.int .i64 n, .int .i64 a, .slice ad1 tp.length cp1, .complex .f64 X Y] 66, Blk b #[.int .i64 kd, .int .i64 sz, .int .i64 sl, .int .i64 lt, .int .i64 ag, .int .i64 kk] 23] := H13
      clear H12
      have c5 := H13.cell 6 5 rfl rfl
      have x2 := H13.cell 2 2 rfl rfl
      have r2 := H13.free 2 2 rfl
      have tc : (t : Int) ≤ (c7 : Int) := by omega
      have tn : t ≤ c7 := by omega
      have H14 := (H13.set 2 rfl 2 (.slice (some ⟨b7, 0, none⟩) t c7)).row_cut 0 (k := t) rfl (by omega) (by omega)
      go_wp2
      go_meet
      obtain ⟨T, hTT⟩ : ∃ T, (sortD (tp ++ tq)).take t = T := ⟨_, rfl⟩
      have hTl : T.length = t := by rw [← hTT, List.length_take]; omega
      have hTc : (intCells (sortD (tp ++ tq))).take (t * 1) = intCells T := by rw [← hTT, Nat.mul_one]; unfold intCells; rw [List.map_take]
      have hTb : ∀ z ∈ T, -9223372036854775808 ≤ z ∧ z ≤ 9223372036854775807 := fun z hz => by
        rw [← hTT] at hz
        have h1 := (sortD_mem _ z).1 (List.mem_of_mem_take hz)
        obtain ⟨_, _, _, _, q1, _⟩ := hr10
        obtain ⟨_, _, _, _, q2, _⟩ := hr20
        rcases List.mem_append.1 h1 with h1 | h1
        · exact q1 z h1
        · exact q2 z h1
      rw [hTc] at H14
      have hT3 := hT2.out
      rw [hTT] at hT3
      clear hmin hmin2 ht tc tn hTT hTc
      subst hTl
      exact ⟨T, some ⟨b7, 0, none⟩, c7, hT3.symm, ints_own (H14.row 0 rfl) hTb, H14.pick [2, 3, 4, 5, 6, 0]⟩
    · have y6 : (ag == 6) = false := by simpa using h6
      have hT := Lib.hid (show topM ⟨kd, sz, sl, lt, ag, kk⟩ tp tq = [] by unfold topM; rw [if_neg h6])
      clear h6 hsix
      go_wp2
      go_meet
      refine ⟨[], none, 0, hT.out.symm, ⟨none, 0, rfl, Nat.le_refl _, by simp, fun h => absurd rfl h⟩, (H9.row_nil 3 1).pick [1, 2, 3, 4, 5, 0]⟩
  case rest =>
  obtain ⟨T, at1, ct, hTe, hTR, H15⟩ := hcut
  have hz0 := Lib.hid ib_zero
  clear hr10 hr20 H9 c4 c5
  have hsum : sumM ⟨kd, sz, sl, lt, ag, kk⟩ ⟨n, a, tp, x, y⟩ ⟨m, c, tq, u, v⟩ = ⟨n + m, J, T, x + u, y + v⟩ := by
    unfold sumM
    simp only [hJ.out, hTe]
  by_cases hp : partB (x + u) = true ∧ partB (y + v) = true
  · have hadd : addM x y u v = (x + u, y + v, 0) := by
      unfold addM ofM
      rw [if_pos ⟨⟨px, py⟩, px', py'⟩, if_pos hp]
    rw [hr.out] at hadd
    simp only [Prod.mk.injEq] at hadd
    obtain ⟨rfl, rfl, rfl⟩ := hadd
    have krs := agg_right ⟨kd, sz, sl, lt, ag, kk⟩ ⟨n + m, J, T, x + u, y + v⟩ _ hTR (by
      rw [hTe]
      show (topM _ _ _).length ≤ _
      unfold topM
      split
      · rw [List.length_take, sortD_len, List.length_append]; omega
      · simp) (by simp only; omega) (by simp only; omega)
    have hf2 := hf.out
    rw [hsum] at hf2
    obtain ⟨R, hR⟩ : ∃ R, Ag.right ⟨kd, sz, sl, lt, ag, kk⟩ ⟨n + m, J, T, x + u, y + v⟩ = R := ⟨_, rfl⟩
    rw [hR] at krs hf2
    unfold qyV agV qyC agC at krs
    simp only [hVX.out, hVY.out] at krs
    have krs := St.callPast krs H15
    have c0 := H15.cell 4 0 rfl rfl
    have c1 := H15.cell 4 1 rfl rfl
    have c2 := H15.cell 4 2 rfl rfl
    have c3 := H15.cell 4 3 rfl rfl
    have c4 := H15.cell 4 4 rfl rfl
    have c5 := H15.cell 4 5 rfl rfl
    have d0 := H15.cell 0 0 rfl rfl
    have d1 := H15.cell 0 1 rfl rfl
    have d2 := H15.cell 0 2 rfl rfl
    have d3 := H15.cell 0 3 rfl rfl
    clear hf hp hTR hTe
    cases R with
    | false =>
      have hfN := Lib.hid (show M = (Ag.zero, 20) by rw [hf2]; simp)
      clear hf2 hR
      go_wp2_with (go_at_call 80; go_must (with_reducible refine krs.mono ?_; clear c0 c1 c2 c3 c4 c5 d0 d1 d2 d3; rintro e w16 ⟨rfl, H16⟩; have r0 := H16.free 1 0 rfl; have r1 := H16.free 1 1 rfl; have r2 := H16.free 1 2 rfl; have r3 := H16.free 1 3 rfl; have x0 := H16.cell 1 0 rfl rfl; have x1 := H16.cell 1 1 rfl rfl; have x2 := H16.cell 1 2 rfl rfl; have x3 := H16.cell 1 3 rfl rfl; have d0 := H16.cell 0 0 rfl rfl; have d1 := H16.cell 0 1 rfl rfl; have d2 := H16.cell 0 2 rfl rfl; have d3 := H16.cell 0 3 rfl rfl; have HR := (((H16.set 1 rfl 0 (.int .i64 0)).set 1 rfl 1 (.int .i64 0)).set 1 rfl 2 (.slice none 0 0)).set 1 rfl 3 (.complex .f64 0 0)))
      try simp only [Exit.inBlock, Exit.then]
      refine bodyPost_ret (results_agt rfl rfl (blk_ag (cs := [.int .i64 0, .int .i64 0, .slice none 0 0, .complex .f64 0 0]) (HR.blk 1 rfl)) Tryz.underlying66 rfl (by kernel_rfl)) rfl ?_
      rw [hfN.out]
      refine ⟨.slice none 0 0, ?_, (HR.row_nil 3 1).pick [0]⟩
      unfold Ag.zero
      simp only [hz0.out]
      rfl
    | true =>
      have hfN := Lib.hid (show M = (⟨n + m, J, T, x + u, y + v⟩, 0) by rw [hf2]; simp)
      clear hf2 hR
      go_wp2_with (go_at_call 80; go_must (with_reducible refine krs.mono ?_; clear c0 c1 c2 c3 c4 c5 d0 d1 d2 d3; rintro e w16 ⟨rfl, H16⟩; have r0 := H16.free 1 0 rfl; have r1 := H16.free 1 1 rfl; have r2 := H16.free 1 2 rfl; have r3 := H16.free 1 3 rfl; have x0 := H16.cell 1 0 rfl rfl; have x1 := H16.cell 1 1 rfl rfl; have x2 := H16.cell 1 2 rfl rfl; have x3 := H16.cell 1 3 rfl rfl; have d0 := H16.cell 0 0 rfl rfl; have d1 := H16.cell 0 1 rfl rfl; have d2 := H16.cell 0 2 rfl rfl; have d3 := H16.cell 0 3 rfl rfl; have HR := (((H16.set 1 rfl 0 (.int .i64 (n + m))).set 1 rfl 1 (.int .i64 J)).set 1 rfl 2 (.slice at1 T.length ct)).set 1 rfl 3 (.complex .f64 VX VY)))
      try simp only [Exit.inBlock, Exit.then]
      refine bodyPost_ret (results_agt rfl rfl (blk_ag (cs := [.int .i64 (n + m), .int .i64 J, .slice at1 T.length ct, .complex .f64 VX VY]) (HR.blk 1 rfl)) Tryz.underlying66 rfl (by kernel_rfl)) rfl ?_
      rw [hfN.out]
      refine ⟨.slice at1 T.length ct, ?_, HR.pick [5]⟩
      simp only [hVX.out, hVY.out]
      rfl
  · have hadd : addM x y u v = (0, 0, 20) := by
      unfold addM ofM
      rw [if_pos ⟨⟨px, py⟩, px', py'⟩, if_neg hp]
    rw [hr.out] at hadd
    simp only [Prod.mk.injEq] at hadd
    obtain ⟨rfl, rfl, rfl⟩ := hadd
    have hnr : Ag.right ⟨kd, sz, sl, lt, ag, kk⟩ ⟨n + m, J, T, x + u, y + v⟩ = false := by
      rw [← Bool.not_eq_true]
      intro h
      have h1 := Ag.right_iff.1 h
      exact hp ⟨h1.2.2.2.2.2.2.1, h1.2.2.2.2.2.2.2.1⟩
    have hfN := Lib.hid (show M = (Ag.zero, 20) by rw [hf.out, hsum, if_neg (by rw [hnr]; simp)])
    clear hf hr hnr hsum hp
    have r0 := H15.free 1 0 rfl
    have r1 := H15.free 1 1 rfl
    have r2 := H15.free 1 2 rfl
    have r3 := H15.free 1 3 rfl
    have x0 := H15.cell 1 0 rfl rfl
    have x1 := H15.cell 1 1 rfl rfl
    have x2 := H15.cell 1 2 rfl rfl
    have x3 := H15.cell 1 3 rfl rfl
    have HR := (((H15.set 1 rfl 0 (.int .i64 0)).set 1 rfl 1 (.int .i64 0)).set 1 rfl 2 (.slice none 0 0)).set 1 rfl 3 (.complex .f64 0 0)
    go_wp2
    try simp only [Exit.inBlock, Exit.then]
    refine bodyPost_ret (results_agt rfl rfl (blk_ag (cs := [.int .i64 0, .int .i64 0, .slice none 0 0, .complex .f64 0 0]) (HR.blk 1 rfl)) Tryz.underlying66 rfl (by kernel_rfl)) rfl ?_
    rw [hfN.out]
    refine ⟨.slice none 0 0, ?_, (HR.row_nil 3 1).pick [0]⟩
    unfold Ag.zero
    simp only [hz0.out]
    rfl

end Go.Proofs.YtiglgfonhdfpmaaGreat

/- The walk of the aggregates' Add. Condition: what is known is right, and the value too. -/
set_option linter.unusedVariables false
set_option linter.unusedSimpArgs false
namespace Go.Proofs.YtiglgfonhdfpmaaGreat
open Go.RowKit

theorem valB_of_top {q : Qry} {g : Ag} (h : g.right q = true) : ∀ z ∈ g.top, -9223372036854775808 ≤ z ∧ z ≤ 9223372036854775807 := fun z hz => by
  obtain ⟨-, -, -, -, h5, -⟩ := Ag.right_iff.1 h
  rcases topB_iff.1 h5 with ⟨-, -, -, h6⟩ | ⟨-, h6⟩
  · have := valB_iff.1 (h6 z hz); omega
  · rw [h6] at hz; cases hz
set_option maxHeartbeats 4000000 in
set_option maxRecDepth 100000 in
theorem agg_add (q : Qry) (g : Ag) (v : Int) {hv : Value} (w : World) (hr : IntsRO w hv g.top) (hg : g.right q = true) (hvb : valB v = true) :
    Calls Tryz.prog 196 #[qyV q, agV g hv, .int .i64 v] w fun e w' => ∃ h, e = .returned (.tuple #[agV (mergeC q g (singleM q v)).1 h, .int .i64 (mergeC q g (singleM q v)).2]) ∧ St (fun _ => False) w w' [Row 3 1 h (mergeC q g (singleM q v)).1.top.length (intCells (mergeC q g (singleM q v)).1.top)] := by
  have hvi := valB_iff.1 hvb
  have kv := fun w' => agg_value v w'
  rw [hvb] at kv
  have ks := fun w' => agg_single q (v := v) (by omega) w'
  have hq : q.right = true := (Ag.right_iff.1 hg).1
  have hsr := single_right hq hvb
  have htb := valB_of_top hsr
  have km := fun w' hs (h1 : IntsRO w' hv g.top) (h2 : IntsRO w' hs (singleM q v).top) => agg_merge q g (singleM q v) w' h1 h2 hg hsr
  have hr0 := hr
  obtain ⟨ad, cap, rfl, -⟩ := hr
  obtain ⟨S, hS⟩ : ∃ S, singleM q v = S := ⟨_, rfl⟩
  rw [hS] at htb
  simp only [hS] at ks km ⊢
  clear hS hsr hg hvb hvi hq
  obtain ⟨⟨M, cd⟩, hM⟩ : ∃ M, mergeC q g S = M := ⟨_, rfl⟩
  simp only [hM] at km ⊢
  clear hM
  obtain ⟨kd, sz, sl, lt, ag, kk⟩ := q
  obtain ⟨n, a, tp, x, y⟩ := g
  obtain ⟨sn, sa, tq, sx, sy⟩ := S
  obtain ⟨mn, ma, tm, mx, my⟩ := M
  simp only at *
  unfold qyV agV qyC agC at *
  simp only at *
  obtain ⟨X, hX⟩ : ∃ X, ib x = X := ⟨_, rfl⟩
  obtain ⟨Y, hY⟩ : ∃ Y, ib y = Y := ⟨_, rfl⟩
  obtain ⟨SX, hSX⟩ : ∃ X, ib sx = X := ⟨_, rfl⟩
  obtain ⟨SY, hSY⟩ : ∃ X, ib sy = X := ⟨_, rfl⟩
  obtain ⟨MX, hMX⟩ : ∃ X, ib mx = X := ⟨_, rfl⟩
  obtain ⟨MY, hMY⟩ : ∃ X, ib my = X := ⟨_, rfl⟩
  simp only [hX, hY, hSX, hSY, hMX, hMY] at ks km ⊢
  clear hX hY hSX hSY hMX hMY
  obtain ⟨b, hb⟩ : ∃ g, w.heap.size = g := ⟨_, rfl⟩
  obtain ⟨b2, hb2⟩ : ∃ b2, b + 1 = b2 := ⟨_, rfl⟩
  obtain ⟨b3, hb3⟩ : ∃ b3, b2 + 1 = b3 := ⟨_, rfl⟩
  have sz1 : ∀ (w : World) (o : Obj), (w.alloc o).heap.size = w.heap.size + 1 := fun w o => Array.size_push _
  have H0 : St (fun _ => False) w _ [_] := (St.nil _ w).allocAt hb #[.int .i64 kd, .int .i64 sz, .int .i64 sl, .int .i64 lt, .int .i64 ag, .int .i64 kk] 23
  have H1 := H0.allocAt (B := b2) (by rw [← hb2, ← hb]; exact Array.size_push _) #[.int .i64 n, .int .i64 a, .slice ad tp.length cap, .complex .f64 X Y] 66
  have s2 : ((w.alloc (.cells #[.int .i64 kd, .int .i64 sz, .int .i64 sl, .int .i64 lt, .int .i64 ag, .int .i64 kk] 23)).alloc (.cells #[.int .i64 n, .int .i64 a, .slice ad tp.length cap, .complex .f64 X Y] 66)).heap.size = b3 := by rw [sz1, sz1, hb, hb2, hb3]
  have H := H1.allocAt (B := b3) s2 #[.int .i64 0, .int .i64 0, .slice none 0 0, .complex .f64 0 0] 66
  obtain ⟨w1, hw1⟩ : ∃ w1, ((w.alloc (.cells #[.int .i64 kd, .int .i64 sz, .int .i64 sl, .int .i64 lt, .int .i64 ag, .int .i64 kk] 23)).alloc (.cells #[.int .i64 n, .int .i64 a, .slice ad tp.length cap, .complex .f64 X Y] 66)).alloc (.cells #[.int .i64 0, .int .i64 0, .slice none 0 0, .complex .f64 0 0] 66) = w1 := ⟨_, rfl⟩
  rw [hw1] at H
  go_enter Tryz.func196, Tryz.ntmps196
  go_upto_region 1 with (fail)
  try simp only [hb, hb2, hb3]
  try rw [hw1]
  clear hw1 hb hb2 hb3 H0 H1 s2 sz1
  go_upto_region 3 with (go_at_call 202; go_must (refine (kv _).mono ?_; rintro e w2 ⟨rfl, e3⟩; rw [e3]; clear e3))
  clear kv
  refine wp_script [(0, false), (1, false), (2, false), (3, false), (4, true), (5, true), (6, false), (7, false), (8, true), (9, false)] (Fam fun w' => St (fun _ => False) w w' [Blk b2 #[.int .i64 n, .int .i64 a, .slice ad tp.length cap, .complex .f64 X Y] 66, Blk b #[.int .i64 kd, .int .i64 sz, .int .i64 sl, .int .i64 lt, .int .i64 ag, .int .i64 kk] 23]) (fun w' => St (fun _ => False) w w' [Blk b3 #[.int .i64 0, .int .i64 0, .slice none 0 0, .complex .f64 0 0] 66, Blk b2 #[.int .i64 n, .int .i64 a, .slice ad tp.length cap, .complex .f64 X Y] 66, Blk b #[.int .i64 kd, .int .i64 sz, .int .i64 sl, .int .i64 lt, .int .i64 ag, .int .i64 kk] 23]) (by kernel_rfl) (by rfl) (by kernel_rfl) (by kernel_rfl) H.drew (Fam.st (fun _ h => h.pick [1, 2])) ?_
  iterate 4 first
    | (apply script_pass
       · rfl
       · rfl
       intro K hK
       go_simp
       refine hK _ ?_
       clear hK K)
    | (apply script_step
       · rfl
       · rfl
       · intro I hI w1 h1'
         have h1 := hI.2 _ h1'
         have c0 := h1.cell 1 0 rfl rfl
         have c1 := h1.cell 1 1 rfl rfl
         have c2 := h1.cell 1 2 rfl rfl
         have c3 := h1.cell 1 3 rfl rfl
         have c4 := h1.cell 1 4 rfl rfl
         have c5 := h1.cell 1 5 rfl rfl
         have d0 := h1.cell 0 0 rfl rfl
         have d1 := h1.cell 0 1 rfl rfl
         have d2 := h1.cell 0 2 rfl rfl
         have d3 := h1.cell 0 3 rfl rfl
         first
           | (go_simp
              first
                | rfl
                | exact ⟨rfl, h1'⟩
             )
       intro K hK
       go_simp
       refine hK _ ?_
       clear hK K)
  refine script_alone rfl rfl ?_
  intro V hV w1 h1
  go_simp
  refine (ks w1).mono ?_
  rintro e w2 ⟨hs, rfl, G1⟩
  have H2 := h1.call0 G1
  refine ⟨_, rfl, fun w' => St (fun _ => False) w w' [Row 3 1 hs tq.length (intCells tq), Blk b3 #[.int .i64 0, .int .i64 0, .slice none 0 0, .complex .f64 0 0] 66, Blk b2 #[.int .i64 n, .int .i64 a, .slice ad tp.length cap, .complex .f64 X Y] 66, Blk b #[.int .i64 kd, .int .i64 sz, .int .i64 sl, .int .i64 lt, .int .i64 ag, .int .i64 kk] 23], hV _ _ _ (fun _ h => h) (Fam.st (fun _ h => h.pick [2, 3])) ?_, H2⟩
  intro K hK
  go_simp
  refine hK _ ?_
  clear hK K hV V
  clear H2 h1 G1 w1 w2
  refine script_alone rfl rfl ?_
  intro V hV w1 h1
  go_simp
  refine (km w1 hs (hr0.later h1.kept) (ints_own (h1.row 0 rfl) htb)).mono ?_
  rintro e w2 ⟨hm, rfl, G1⟩
  have H2 := h1.call0 G1
  refine ⟨_, rfl, fun w' => St (fun _ => False) w w' [Row 3 1 hm tm.length (intCells tm), Row 3 1 hs tq.length (intCells tq), Blk b3 #[.int .i64 0, .int .i64 0, .slice none 0 0, .complex .f64 0 0] 66, Blk b2 #[.int .i64 n, .int .i64 a, .slice ad tp.length cap, .complex .f64 X Y] 66, Blk b #[.int .i64 kd, .int .i64 sz, .int .i64 sl, .int .i64 lt, .int .i64 ag, .int .i64 kk] 23], hV _ _ _ (fun _ h => h) (Fam.st (fun _ h => h.pick [3, 4])) ?_, H2⟩
  intro K hK
  go_simp
  refine hK _ ?_
  clear hK K hV V
  clear H2 h1 G1 w1 w2
  iterate 2 first
    | (apply script_pass
       · rfl
       · rfl
       intro K hK
       go_simp
       refine hK _ ?_
       clear hK K)
    | (apply script_step
       · rfl
       · rfl
       · intro I hI w1 h1'
         have h1 := hI.2 _ h1'
         first
           | (go_simp
              first
                | rfl
                | exact ⟨rfl, h1'⟩
             )
       intro K hK
       go_simp
       refine hK _ ?_
       clear hK K)
  refine script_alone rfl rfl ?_
  intro V hV w1 h1
  obtain ⟨am, cm, rfl, -, -⟩ := slice_form' (h1.row 0 rfl)
  have r0 := h1.free 2 0 rfl
  have r1 := h1.free 2 1 rfl
  have r2 := h1.free 2 2 rfl
  have r3 := h1.free 2 3 rfl
  have x0 := h1.cell 2 0 rfl rfl
  have x1 := h1.cell 2 1 rfl rfl
  have x2 := h1.cell 2 2 rfl rfl
  have x3 := h1.cell 2 3 rfl rfl
  have H4 := (((h1.set 2 rfl 0 (.int .i64 mn)).set 2 rfl 1 (.int .i64 ma)).set 2 rfl 2 (.slice am tm.length cm)).set 2 rfl 3 (.complex .f64 MX MY)
  go_simp
  refine ⟨fun w' => St (fun _ => False) w w' [Row 3 1 (.slice am tm.length cm) tm.length (intCells tm), Row 3 1 hs tq.length (intCells tq), Blk b3 #[.int .i64 mn, .int .i64 ma, .slice am tm.length cm, .complex .f64 MX MY] 66, Blk b2 #[.int .i64 n, .int .i64 a, .slice ad tp.length cap, .complex .f64 X Y] 66, Blk b #[.int .i64 kd, .int .i64 sz, .int .i64 sl, .int .i64 lt, .int .i64 ag, .int .i64 kk] 23], hV _ _ _ (fun _ h => h) (Fam.st (fun _ h => h.pick [3, 4])) ?_, H4⟩
  intro K hK
  go_simp
  refine hK _ ?_
  clear hK K hV V
  clear H4 h1 w1 r0 r1 r2 r3 x0 x1 x2 x3
  iterate 1 first
    | (apply script_pass
       · rfl
       · rfl
       intro K hK
       go_simp
       refine hK _ ?_
       clear hK K)
    | (apply script_step
       · rfl
       · rfl
       · intro I hI w1 h1'
         have h1 := hI.2 _ h1'
         first
           | (go_simp
              first
                | rfl
                | exact ⟨rfl, h1'⟩
             )
       intro K hK
       go_simp
       refine hK _ ?_
       clear hK K)
  refine script_nil ?_
  intro w9 H9
  go_wp2
  try simp only [Exit.inBlock, Exit.then]
  refine bodyPost_ret (results_agt rfl rfl (blk_ag (cs := [.int .i64 mn, .int .i64 ma, .slice am tm.length cm, .complex .f64 MX MY]) (H9.blk 2 rfl)) Tryz.underlying66 rfl (by kernel_rfl)) rfl ?_
  exact ⟨.slice am tm.length cm, rfl, H9.pick [0]⟩

end Go.Proofs.YtiglgfonhdfpmaaGreat

/- The stepper's find and fire. Conditions: what is known is right; so many outs. -/
set_option linter.unusedVariables false
set_option linter.unusedSimpArgs false
namespace Go.Proofs.YtiglgfonhdfpmaaGreat
open Go.RowKit

abbrev stC (q : Qry) (mark : Int) (pv ov : Value) : Array Value := #[.int .i64 q.kind, .int .i64 q.size, .int .i64 q.slide, .int .i64 q.late, .int .i64 q.agg, .int .i64 q.k, .int .i64 mark, pv, ov]
abbrev otZ : Value := .agg #[.bool false, .int .i64 0, .string ⟨#[]⟩, .int .i64 0, .int .i64 0, .string ⟨#[]⟩, .int .i64 0, .int .i64 0, .int .i64 0, .slice none 0 0]
theorem Tryz.info63 : (Tryz.prog.info? 63).map (fun i => (i.zero, i.size, i.bytes)) = some (some otZ, 10, 112) := by kernel_rfl

/-- A right one's value has numbers that the machine can hold. -/
theorem val_lim {q : Qry} {g : Ag} (h : g.right q = true) : ∀ z ∈ valueM q g, -9223372036854775808 ≤ z ∧ z ≤ 9223372036854775807 := by
  intro z hz
  obtain ⟨-, hn, ha, -, -, -, hx, hy⟩ := right_nums h
  have ht := valB_of_top h
  unfold valueM at hz
  split at hz
  · cases hz
  · split at hz
    · rw [List.mem_singleton.1 hz]; omega
    · split at hz
      · rw [List.mem_singleton.1 hz]
        unfold floorM
        have h0 : 0 < g.n := by omega
        have h1 := Int.natAbs_ediv_le_natAbs g.a g.n
        omega
      · split at hz
        · exact ht z hz
        · split at hz
          · simp only [List.mem_cons, List.not_mem_nil, or_false] at hz
            rcases hz with rfl | rfl <;> omega
          · rw [List.mem_singleton.1 hz]; omega
set_option maxHeartbeats 2000000 in
set_option maxRecDepth 100000 in
theorem step_find {t : Nat} {q : Qry} {mark : Int} {pv ov : Value} {l : List Pm} {x : Wd} {w : World} {k : Nat} (ht : w.heap[t]? = some (.cells (stC q mark pv ov) 137 (0, 0))) (hv : encP.RO w pv l) (hl : l.length ≤ 1073741824) (hk : k ≤ l.length)
    (hlo : ∀ (j : Nat) y, j < k → l[j]? = some y → y.p.w.place x < 0) (hhi : ∀ (j : Nat) y, k ≤ j → l[j]? = some y → 0 ≤ y.p.w.place x) :
    Calls Tryz.prog 197 #[.pointer (some ⟨t, 0, none⟩), wdV x] w fun e w' => FoundP k l x e ∧ Below w.heap.size w w' := by
  have ks := fun w' (hk2 : Kept (fun _ => False) w w') => pns_search (x := x) (hv.later hk2) hl hk hlo hhi
  have htl := blk_lt ht
  obtain ⟨ad, cap, rfl, -, -⟩ := hv
  clear hlo hhi
  obtain ⟨kd, sz, sl, lt, ag, kk⟩ := q
  obtain ⟨X, hX⟩ : ∃ X, X = x := ⟨_, rfl⟩
  rw [← hX] at ks ⊢
  have hXh := Lib.hid hX
  clear hX
  obtain ⟨yk, yf, yt⟩ := X
  unfold find1V wdV wdC textV at ks
  unfold stC at ht
  unfold wdV wdC textV
  simp only at ks ht ⊢
  have H : St (fun _ => False) w _ [_] := (St.nil _ w).allocAt rfl #[.string ⟨yk.toArray⟩, .int .i64 yf, .int .i64 yt] 61
  obtain ⟨b, hb⟩ : ∃ b, w.heap.size = b := ⟨_, rfl⟩
  obtain ⟨w1, hw1⟩ : ∃ w1, w.alloc (.cells #[.string ⟨yk.toArray⟩, .int .i64 yf, .int .i64 yt] 61) = w1 := ⟨_, rfl⟩
  go_enter Tryz.func197, Tryz.ntmps197
  go_upto_region 1 with (fail)
  rw [hw1, hb] at H
  try rw [hw1]
  try simp only [hb]
  have hbh := Lib.hid hb
  clear hw1 hb
  refine wp_script [(0, false), (1, false), (2, false), (3, false), (4, false), (5, false), (6, true), (7, false), (8, false), (9, false), (10, false)] (Fam fun w' => St (fun _ => False) w w' [Blk b #[.string ⟨yk.toArray⟩, .int .i64 yf, .int .i64 yt] 61]) (fun w' => St (fun _ => False) w w' [Blk b #[.string ⟨yk.toArray⟩, .int .i64 yf, .int .i64 yt] 61]) (by kernel_rfl) (by rfl) (by kernel_rfl) (by kernel_rfl) H.drew (Fam.st (fun _ h => h)) ?_
  iterate 6 first
    | (apply script_pass
       · rfl
       · rfl
       intro K hK
       go_simp
       refine hK _ ?_
       clear hK K)
    | (apply script_step
       · rfl
       · rfl
       · intro I hI w1 h1'
         have h1 := hI.2 _ h1'
         have c0 := h1.cell 0 0 rfl rfl
         have c1 := h1.cell 0 1 rfl rfl
         have c2 := h1.cell 0 2 rfl rfl
         have d7 := cell_blk' ((h1.kept.block t htl id).trans ht) (i := 7) rfl
         first
           | (go_simp
              first
                | rfl
                | exact ⟨rfl, h1'⟩
             )
       intro K hK
       go_simp
       refine hK _ ?_
       clear hK K)
  refine script_alone rfl rfl ?_
  intro V hV w1 h1
  go_simp
  refine (ks w1 h1.kept).mono ?_
  rintro e w2 ⟨⟨bv, rfl, hbv⟩, hb2⟩
  have hbvh := Lib.hid hbv
  clear hbv
  have H2 := h1.past hb2
  refine ⟨_, rfl, fun w' => St (fun _ => False) w w' [Blk b #[.string ⟨yk.toArray⟩, .int .i64 yf, .int .i64 yt] 61], hV _ _ _ (fun _ h => h) (Fam.st (fun _ h => h)) ?_, H2⟩
  intro K hK
  go_simp
  refine hK _ ?_
  clear hK K hV V
  clear H2 h1 hb2 w1 w2
  iterate 4 first
    | (apply script_pass
       · rfl
       · rfl
       intro K hK
       go_simp
       refine hK _ ?_
       clear hK K)
    | (apply script_step
       · rfl
       · rfl
       · intro I hI w1 h1'
         have h1 := hI.2 _ h1'
         first
           | (go_simp
              first
                | rfl
                | exact ⟨rfl, h1'⟩
             )
       intro K hK
       go_simp
       refine hK _ ?_
       clear hK K)
  refine script_nil ?_
  intro w9 H9
  go_wp2
  go_ret2
  exact ⟨⟨bv, rfl, hbvh.out⟩, H9.below (Nat.le_refl _) (fun _ h => h.elim)⟩

set_option maxHeartbeats 4000000 in
set_option maxRecDepth 100000 in
theorem step_fire {t g i : Nat} {q : Qry} {mark : Int} {pv ov : Value} {ms : List Pm} {R : List Value} {os : List Om} {H : List (Value × List Int)} {m : Pm} {w : World} {S : Nat → Prop} (hm : ms[i]? = some m) (hg : m.p.g.right q = true) (hr : 0 ≤ m.p.round ∧ m.p.round ≤ 1073741824) (hin : m.own ∈ H) (hol : os.length ≤ 1073741824)
    (H0 : Sep w [Blk t (stC q mark pv ov) 137, Blk g (encP.all ms ++ R).toArray 68, Row 63 10 ov os.length (encO.all os), Pool H] S) :
    Calls Tryz.prog 133 #[.pointer (some ⟨t, 0, none⟩), .pointer (some ⟨g, i * 8, none⟩)] w fun e w' => ∃ ov' ad cap, e = .returned (.tuple #[]) ∧
      St S w w' [Blk t (stC q mark pv ov') 137, Blk g (encP.all (ms.set i ⟨⟨m.p.w, m.p.g, m.p.round + 1⟩, m.ad, m.cap⟩) ++ R).toArray 68, Row 63 10 ov' (os.length + 1) (encO.all (os ++ [⟨⟨false, itm00, m.p.w, m.p.round + 1, valueM q m.p.g⟩, ad, cap⟩])), Pool ((.slice ad (valueM q m.p.g).length cap, valueM q m.p.g) :: H)] := by
  have H1 : St S w w [Pool H, Blk t (stC q mark pv ov) 137, Blk g (encP.all ms ++ R).toArray 68, Row 63 10 ov os.length (encO.all os)] := (St.refl H0).pick [3, 0, 1, 2]
  clear H0
  have kv := fun w' (h : IntsRO w' m.hd m.p.g.top) => agg_val q m.p.g w' h hg
  have hvl := val_lim hg
  have hset := encP.set1 (R := R) (x' := ⟨⟨m.p.w, m.p.g, m.p.round + 1⟩, m.ad, m.cap⟩) (v := .int .i64 (m.p.round + 1)) hm (show 7 < encP.k by decide) rfl
  have hset : (encP.all ms ++ R).toArray.setIfInBounds (i * 8 + 7) (.int .i64 (m.p.round + 1)) = (encP.all (ms.set i ⟨⟨m.p.w, m.p.g, m.p.round + 1⟩, m.ad, m.cap⟩) ++ R).toArray := hset
  have hmM : (ms.set i ⟨⟨m.p.w, m.p.g, m.p.round + 1⟩, m.ad, m.cap⟩)[i]? = some ⟨⟨m.p.w, m.p.g, m.p.round + 1⟩, m.ad, m.cap⟩ := by
    rw [List.getElem?_set_self (List.getElem?_eq_some_iff.1 hm).1]
  obtain ⟨vals, hvals⟩ : ∃ v, valueM q m.p.g = v := ⟨_, rfl⟩
  rw [hvals] at hvl
  simp only [hvals] at kv ⊢
  clear hvals hg
  obtain ⟨M, hM⟩ : ∃ M, ms.set i ⟨⟨m.p.w, m.p.g, m.p.round + 1⟩, m.ad, m.cap⟩ = M := ⟨_, rfl⟩
  rw [hM] at hset hmM ⊢
  clear hM
  have n1 : IntKind.i64.wrap (m.p.round + 1) = m.p.round + 1 := by rw [IntKind.wrap_i64]; omega
  obtain ⟨r1, hr1⟩ : ∃ r, m.p.round + 1 = r := ⟨_, rfl⟩
  rw [hr1] at hset hmM
  simp only [hr1] at n1 ⊢
  obtain ⟨q0, q1, q2, q3, q4, q5, q6, q7⟩ := pn_blk (H1.blk 2 rfl) hm
  have f7 := H1.free 2 (i * 8 + 7) rfl
  have hmMh := Lib.hid hmM
  have hinh := Lib.hid hin
  have H2 := H1.set 2 rfl (i * 8 + 7) (.int .i64 r1)
  rw [hset] at H2
  have H2 : St S w _ [Pool H, Blk t (stC q mark pv ov) 137, Blk g (encP.all M ++ R).toArray 68, Row 63 10 ov os.length (encO.all os)] := H2
  obtain ⟨w1, hw1⟩ : ∃ w1, w.setCell ⟨g, i * 8 + 7, none⟩ (.int .i64 r1) = w1 := ⟨_, rfl⟩
  rw [hw1] at H2
  obtain ⟨⟨⟨xk, xf, xt⟩, ⟨gn, ga, gt, gx, gy⟩, xr⟩, xa, xc⟩ := m
  unfold Pm.own Pm.hd at hinh
  unfold agV agC Pm.hd at kv
  simp only at kv hr1 q7 n1 hinh hr ⊢
  obtain ⟨kd, sz, sl, lt, ag, kk⟩ := q
  unfold stC at H2 ⊢
  unfold qyV qyC at kv
  simp only at H2 kv ⊢
  clear q0 q1 q2 q3 q4 q5 q6 hmM hin hset H1
  go_enter Tryz.func133, Tryz.ntmps133
  go_upto_region 1 with (fail)
  try rw [hw1]
  clear hw1 f7 q7 hr1 n1 hm
  refine wp_script_tail 27 [(0, false), (1, false), (2, false), (3, false), (4, false), (5, false), (6, false), (7, false), (8, false), (9, false), (10, false), (11, false), (12, false), (13, false), (14, false), (15, false), (16, false), (17, false), (18, false), (19, false), (20, false), (21, true), (22, false), (23, true), (24, true), (25, false), (26, false)] (Fam fun w' => St S w w' [Blk t #[.int .i64 kd, .int .i64 sz, .int .i64 sl, .int .i64 lt, .int .i64 ag, .int .i64 kk, .int .i64 mark, pv, ov] 137, Blk g (encP.all M ++ R).toArray 68]) (fun w' => St S w w' [Pool H, Blk t #[.int .i64 kd, .int .i64 sz, .int .i64 sl, .int .i64 lt, .int .i64 ag, .int .i64 kk, .int .i64 mark, pv, ov] 137, Blk g (encP.all M ++ R).toArray 68, Row 63 10 ov os.length (encO.all os)]) (by kernel_rfl) (by rfl) (by kernel_rfl) (by kernel_rfl) H2.drew (Fam.st (fun _ h => h.pick [1, 2])) ?_
  iterate 21 first
    | (apply script_pass
       · rfl
       · rfl
       intro K hK
       go_simp
       refine hK _ ?_
       clear hK K)
    | (apply script_step
       · rfl
       · rfl
       · intro I hI w1 h1'
         have h1 := hI.2 _ h1'
         obtain ⟨q0, q1, q2, q3, q4, q5, q6, q7⟩ := pn_blk (h1.blk 1 rfl) hmMh.out
         unfold textV at q0
         unfold Pm.hd at q5
         simp only at q0 q1 q2 q3 q4 q5 q6 q7
         have d0 := h1.cell 0 0 rfl rfl
         have d1 := h1.cell 0 1 rfl rfl
         have d2 := h1.cell 0 2 rfl rfl
         have d3 := h1.cell 0 3 rfl rfl
         have d4 := h1.cell 0 4 rfl rfl
         have d5 := h1.cell 0 5 rfl rfl
         have d8 := h1.cell 0 8 rfl rfl
         first
           | (go_simp
              first
                | rfl
                | exact ⟨rfl, h1'⟩
             )
       intro K hK
       go_simp
       refine hK _ ?_
       clear hK K)
  refine script_alone rfl rfl ?_
  intro V hV w1 h1
  go_simp
  refine (kv w1 (h1.pool_get 0 rfl hinh.out)).mono ?_
  rintro e w2 ⟨hs, rfl, G1⟩
  obtain ⟨av, cv, rfl, -, -⟩ := slice_form' (G1.row 0 rfl)
  have H3 : St S w w2 [Row 3 1 (.slice av vals.length cv) vals.length (intCells vals), Pool H, Blk t #[.int .i64 kd, .int .i64 sz, .int .i64 sl, .int .i64 lt, .int .i64 ag, .int .i64 kk, .int .i64 mark, pv, ov] 137, Blk g (encP.all M ++ R).toArray 68, Row 63 10 ov os.length (encO.all os)] := h1.call0 G1
  have H4 := St.pool_add H3 (ints_own (H3.row 0 rfl) hvl)
  refine ⟨_, rfl, fun w' => St S w w' [Pool ((.slice av vals.length cv, vals) :: H), Blk t #[.int .i64 kd, .int .i64 sz, .int .i64 sl, .int .i64 lt, .int .i64 ag, .int .i64 kk, .int .i64 mark, pv, ov] 137, Blk g (encP.all M ++ R).toArray 68, Row 63 10 ov os.length (encO.all os)], hV _ _ _ (fun _ h => h) (Fam.st (fun _ h => h.pick [1, 2])) ?_, H4⟩
  intro K hK
  go_simp
  refine hK _ ?_
  clear hK K hV V
  clear H4 H3 h1 G1 w1 w2
  iterate 1 first
    | (apply script_pass
       · rfl
       · rfl
       intro K hK
       go_simp
       refine hK _ ?_
       clear hK K)
    | (apply script_step
       · rfl
       · rfl
       · intro I hI w1 h1'
         have h1 := hI.2 _ h1'
         first
           | (go_simp
              first
                | rfl
                | exact ⟨rfl, h1'⟩
             )
       intro K hK
       go_simp
       refine hK _ ?_
       clear hK K)
  refine script_alone rfl rfl ?_
  intro V hV w1 h1
  go_simp
  obtain ⟨gn, hgn⟩ : ∃ g, w1.heap.size = g := ⟨_, rfl⟩
  have H3 : St S w _ [Blk gn #[.bool false, .int .i64 0, .string ⟨#[]⟩, .int .i64 0, .int .i64 0, .string ⟨xk.toArray⟩, .int .i64 xf, .int .i64 xt, .int .i64 r1, .slice av vals.length cv] 63, Pool ((.slice av vals.length cv, vals) :: H), Blk t #[.int .i64 kd, .int .i64 sz, .int .i64 sl, .int .i64 lt, .int .i64 ag, .int .i64 kk, .int .i64 mark, pv, ov] 137, Blk g (encP.all M ++ R).toArray 68, Row 63 10 ov os.length (encO.all os)] := h1.allocAt hgn #[.bool false, .int .i64 0, .string ⟨#[]⟩, .int .i64 0, .int .i64 0, .string ⟨xk.toArray⟩, .int .i64 xf, .int .i64 xt, .int .i64 r1, .slice av vals.length cv] 63
  simp only [hgn]
  refine ⟨fun w' => St S w w' [Blk gn #[.bool false, .int .i64 0, .string ⟨#[]⟩, .int .i64 0, .int .i64 0, .string ⟨xk.toArray⟩, .int .i64 xf, .int .i64 xt, .int .i64 r1, .slice av vals.length cv] 63, Pool ((.slice av vals.length cv, vals) :: H), Blk t #[.int .i64 kd, .int .i64 sz, .int .i64 sl, .int .i64 lt, .int .i64 ag, .int .i64 kk, .int .i64 mark, pv, ov] 137, Blk g (encP.all M ++ R).toArray 68, Row 63 10 ov os.length (encO.all os)], hV _ _ _ (fun _ h => h) (Fam.st (fun _ h => h.pick [2, 3])) ?_, H3⟩
  intro K hK
  go_simp
  refine hK _ ?_
  clear hK K hV V
  clear H3 h1 hgn w1
  refine script_alone rfl rfl ?_
  intro V hV w1 h1
  have H3 : St S w w1 (Row 63 10 ov os.length (encO.all os) :: [Blk gn #[.bool false, .int .i64 0, .string ⟨#[]⟩, .int .i64 0, .int .i64 0, .string ⟨xk.toArray⟩, .int .i64 xf, .int .i64 xt, .int .i64 r1, .slice av vals.length cv] 63, Pool ((.slice av vals.length cv, vals) :: H), Blk t #[.int .i64 kd, .int .i64 sz, .int .i64 sl, .int .i64 lt, .int .i64 ag, .int .i64 kk, .int .i64 mark, pv, ov] 137, Blk g (encP.all M ++ R).toArray 68]) := h1.pick [4, 0, 1, 2, 3]
  have hnw := World.news_of_block (h1.blk 0 rfl)
  refine St.came_row H3 (.tmp 15) (.tmp 34) 46 rfl Tryz.underlying46 Tryz.info63 (by decide) rfl #[.bool false, .int .i64 0, .string ⟨#[]⟩, .int .i64 0, .int .i64 0, .string ⟨xk.toArray⟩, .int .i64 xf, .int .i64 xt, .int .i64 r1, .slice av vals.length cv].toList rfl rfl (by intro h; cases h) (fun ad e => by cases e; exact hnw) (by simp [Value.oneCell']) (by omega) ?_
  intro v2 w2 H4
  obtain ⟨a2, p2, rfl, -, -⟩ := slice_form' (H4.row 0 rfl)
  refine ⟨fun w' => St S w w' [Row 63 10 (.slice a2 (os.length + 1) p2) (os.length + 1) (encO.all os ++ #[.bool false, .int .i64 0, .string ⟨#[]⟩, .int .i64 0, .int .i64 0, .string ⟨xk.toArray⟩, .int .i64 xf, .int .i64 xt, .int .i64 r1, .slice av vals.length cv].toList), Blk gn #[.bool false, .int .i64 0, .string ⟨#[]⟩, .int .i64 0, .int .i64 0, .string ⟨xk.toArray⟩, .int .i64 xf, .int .i64 xt, .int .i64 r1, .slice av vals.length cv] 63, Pool ((.slice av vals.length cv, vals) :: H), Blk t #[.int .i64 kd, .int .i64 sz, .int .i64 sl, .int .i64 lt, .int .i64 ag, .int .i64 kk, .int .i64 mark, pv, ov] 137, Blk g (encP.all M ++ R).toArray 68], hV _ _ _ (fun _ h => h) (Fam.st (fun _ h => h.pick [3, 4])) ?_, H4⟩
  intro K hK
  go_simp
  refine hK _ ?_
  clear hK K hV V
  clear H4 H3 hnw h1 w1 w2
  iterate 2 first
    | (apply script_pass
       · rfl
       · rfl
       intro K hK
       go_simp
       refine hK _ ?_
       clear hK K)
    | (apply script_step
       · rfl
       · rfl
       · intro I hI w1 h1'
         have h1 := hI.2 _ h1'
         first
           | (go_simp
              first
                | rfl
                | exact ⟨rfl, h1'⟩
             )
       intro K hK
       go_simp
       refine hK _ ?_
       clear hK K)
  refine script_nil ?_
  intro w3 H3
  simp only [List.drop_succ_cons, List.drop_zero]
  have c8 := H3.cell 3 8 rfl rfl
  have f8 := H3.free 3 8 rfl
  have H4 := H3.set 3 rfl 8 (.slice a2 (os.length + 1) p2)
  go_wp2
  go_end0
  refine ⟨rfl, .slice a2 (os.length + 1) p2, av, cv, ?_⟩
  rw [encO.all_app, encO.all_one]
  exact H4.pick [3, 4, 0, 2]

end Go.Proofs.YtiglgfonhdfpmaaGreat

/- The stepper as one part; a struct into the midst of a block. Laws. -/
set_option linter.unusedVariables false
set_option linter.unusedSimpArgs false
namespace Go.Proofs.YtiglgfonhdfpmaaGreat
open Go.RowKit

section
variable {P : Program} {S : Nat → Prop} {w0 w : World} {l : List SP}
/-- A struct is stored into the midst of a block, as an operation of a plain list. -/
theorem St.list_storeMid (H : St S w0 w l) (i : Nat) {g : Nat} {cs : List Value} {t : TypeId} (hi : l[i]? = some (Blk g cs.toArray t)) {ty : TypeId} {n off : Nat} {vs : Array Value} (hinfo : (P.info? ty).map (·.size) = some n) (hvs : vs.size = n) (h1 : allOne vs = true) (hfit : off + n ≤ cs.length)
    {ops : Array Oper} {rest : List Oper} {o : Oper} {a : Act} {Q : Exit → Act → World → Prop} (hgd : o.guard = none) (y z : Operand) (ho : o.op = .store ty y z)
    (hy : a.eval y = .pointer (some ⟨g, off, none⟩)) (hz : a.eval z = .agg vs)
    (h : ∀ w', St S w0 w' (l.set i (Blk g (splice cs off vs.toList).toArray t)) → w.heap.size ≤ w'.heap.size → wpList P ops Q rest (a.put o.dst undef) w') : wpList P ops Q (o :: rest) a w := by
  have hm : mayCells w g off n = true := mayCells_blk (H.blk i hi) (by simpa using hfit)
  have h2 := St.setCells i vs.toList off cs w l H hi (by rw [Array.length_toList, hvs]; exact hfit)
  obtain ⟨dst, op, ty', pos, after, gd⟩ := o
  simp only at ho hgd
  subst ho hgd
  refine wpList_plain rfl fun _ hK => ?_
  unfold Oper.wp
  have hr := run_store_mid (P := P) (w := w) (a := a) (dst := dst) (ty' := ty') (pos := pos) (after := after) (g := none) (t := ty) (x := y) (y := z) (n := n) hinfo (by rw [hy]; rfl) (by rw [hy]; exact hm) (by rw [hz]; rfl) (by rw [hz]; exact hvs) (by rw [hz]; exact h1)
  rw [hr, hy, hz]
  exact hK _ _ (h _ h2 (by
    show _ ≤ (w.setCells g off vs.toList).heap.size
    rw [setCells_size]
    exact Nat.le_refl _))
end
theorem splice_in3 (A B C : List Value) (j : Nat) (vs : List Value) (hj : j + vs.length ≤ B.length) : splice (A ++ (B ++ C)) (A.length + j) vs = A ++ (splice B j vs ++ C) := by
  unfold splice
  rw [List.take_append, List.take_of_length_le (by omega), Nat.add_sub_cancel_left, List.take_append_of_le_length (by omega)]
  rw [List.drop_append, List.drop_of_length_le (by omega), List.nil_append, show A.length + j + vs.length - A.length = j + vs.length by omega, List.drop_append_of_le_length hj]
  simp [List.append_assoc]
theorem Enc.setN {α : Type} (E : Enc α) {l : List α} {R : List Value} {i j : Nat} {x x' : α} {vs : List Value} (hi : l[i]? = some x) (hj : j + vs.length ≤ E.k) (hx : E.cells x' = splice (E.cells x) j vs) : splice (E.all l ++ R) (i * E.k + j) vs = E.all (l.set i x') ++ R := by
  have hlt := (List.getElem?_eq_some_iff.1 hi).1
  have e0 : l = l.take i ++ x :: l.drop (i + 1) := by
    have := (List.getElem?_eq_some_iff.1 hi).2
    rw [← this, List.getElem_cons_drop, List.take_append_drop]
  have e1 : E.all l = E.all (l.take i) ++ (E.cells x ++ E.all (l.drop (i + 1))) := by
    rw [← E.all_cons, ← E.all_app, ← e0]
  have e2 : E.all (l.set i x') = E.all (l.take i) ++ (E.cells x' ++ E.all (l.drop (i + 1))) := by
    rw [← E.all_cons, ← E.all_app, List.set_eq_take_append_cons_drop, if_pos hlt]
  have e3 : (E.all (l.take i)).length = i * E.k := by rw [E.all_len, List.length_take, Nat.min_eq_left (by omega)]
  rw [e1, e2, hx, List.append_assoc, List.append_assoc, ← e3, splice_in3 _ _ _ _ _ (by rw [E.len]; exact hj)]
  simp [List.append_assoc]

structure StpX where
  pv : Value
  ov : Value
  ms : List Pm
  os : List Om
  H : List (Value × List Int)
def StpX.good (x : StpX) (l : List Pn) (o : List Ot) : Prop := x.ms.map (·.p) = l ∧ x.os.map (·.o) = o ∧ (∀ m ∈ x.ms, m.own ∈ x.H) ∧ ∀ y ∈ x.os, y.own ∈ x.H
/-- A stepper: its query, its mark, its panes, what came out. -/
def Stp (t : Nat) (q : Qry) (mk : Int) (l : List Pn) (o : List Ot) : SP :=
  SP.ex fun x : StpX => SP.all [SP.pure (x.good l o), Blk t (stC q mk x.pv x.ov) 137, Row 68 8 x.pv x.ms.length (encP.all x.ms), Row 63 10 x.ov x.os.length (encO.all x.os), Pool x.H]
section
variable {S : Nat → Prop} {w0 w : World} {L : List SP} {t : Nat} {q : Qry} {mk : Int} {l : List Pn} {o : List Ot}
theorem Stp.open (h : St S w0 w (Stp t q mk l o :: L)) : ∃ pv ov ms os H, ms.map (·.p) = l ∧ os.map (·.o) = o ∧ (∀ m ∈ ms, Pm.own m ∈ H) ∧ (∀ y ∈ os, Om.own y ∈ H) ∧
    St S w0 w (Blk t (stC q mk pv ov) 137 :: Row 68 8 pv ms.length (encP.all ms) :: Row 63 10 ov os.length (encO.all os) :: Pool H :: L) := by
  obtain ⟨⟨pv, ov, ms, os, H⟩, h2⟩ := St.ex_iff.1 h
  have h3 := St.all_iff.1 h2
  obtain ⟨⟨g1, g2, g3, g4⟩, h4⟩ := St.pure_iff.1 h3
  exact ⟨pv, ov, ms, os, H, g1, g2, g3, g4, h4⟩
theorem Stp.mk' {pv ov : Value} {ms : List Pm} {os : List Om} {H : List (Value × List Int)} (h1 : ms.map (·.p) = l) (h2 : os.map (·.o) = o) (h3 : ∀ m ∈ ms, Pm.own m ∈ H) (h4 : ∀ y ∈ os, Om.own y ∈ H)
    (h : St S w0 w (Blk t (stC q mk pv ov) 137 :: Row 68 8 pv ms.length (encP.all ms) :: Row 63 10 ov os.length (encO.all os) :: Pool H :: L)) : St S w0 w (Stp t q mk l o :: L) :=
  St.ex_iff.2 ⟨⟨pv, ov, ms, os, H⟩, St.all_iff.2 (St.pure_iff.2 ⟨⟨h1, h2, h3, h4⟩, h⟩)⟩
end
theorem map_set {ms : List Pm} {l : List Pn} (h : ms.map (·.p) = l) (i : Nat) (m : Pm) : (ms.set i m).map (·.p) = l.set i m.p := by rw [List.map_set, h]
theorem mem_set_own {ms : List Pm} {H : List (Value × List Int)} (h : ∀ m ∈ ms, Pm.own m ∈ H) (i : Nat) {x : Pm} {H' : List (Value × List Int)} (hx : x.own ∈ H') (hs : ∀ y ∈ H, y ∈ H') : ∀ m ∈ ms.set i x, Pm.own m ∈ H' := by
  intro m hm
  rcases List.mem_or_eq_of_mem_set hm with h1 | rfl
  · exact hs _ (h m h1)
  · exact hx

end Go.Proofs.YtiglgfonhdfpmaaGreat

/- slices.Insert of one pane into a row of the call's own. -/
set_option linter.unusedVariables false
set_option linter.unusedSimpArgs false
namespace Go.Proofs.YtiglgfonhdfpmaaGreat
open Go.RowKit

theorem pns_len (l : List Pm) : (encP.all l).length = l.length * 8 := encP.all_len l
theorem pns_cut (l : List Pm) (k : Nat) : encP.all l = encP.all (l.take k) ++ encP.all (l.drop k) := by rw [← encP.all_app, List.take_append_drop]
theorem overlaps_panes {w : World} {g g2 o o2 n c n2 c2 : Nat} {ca cb : Array Value} {ta tb : TypeId} (hne : g ≠ g2) (ha : w.heap[g]? = some (.cells ca ta (0, 0))) (hb : w.heap[g2]? = some (.cells cb tb (0, 0))) :
    (callFunc 254 #[.slice (some ⟨g, o, none⟩) n c, .slice (some ⟨g2, o2, none⟩) n2 c2]).run Tryz.prog w = .ok (.value (.bool false)) w := by
  rw [run_callFunc_extern Tryz.func254 (by kernel_rfl) (by kernel_rfl) (by kernel_rfl) (e := Extern.SlicesOverlaps.overlaps #[43, 43] #[4]) (by kernel_rfl),
    run_apart w (t := 43) (e := 68) (size := 8) Tryz.underlying43 (by kernel_rfl) hne ha hb]
  rfl

set_option maxHeartbeats 4000000 in
set_option maxRecDepth 100000 in
theorem pns_insert {v : Value} {l : List Pm} {x : Pm} {k g2 : Nat} {w : World} {S : Nat → Prop} (hk : k ≤ l.length) (hl : l.length + 1 ≤ 1073741824) (H : Sep w [Row 68 8 v l.length (encP.all l), Blk g2 (pnC x) 68] S) :
    Calls Tryz.prog 198 #[v, .int .i64 k, .slice (some ⟨g2, 0, none⟩) 1 1] w fun e w' => ∃ v', e = .returned v' ∧ St S w w' [Row 68 8 v' (l.length + 1) (encP.all (l.take k ++ x :: l.drop k)), Blk g2 (pnC x) 68] := by
  have H0 := St.refl H
  clear H
  have hlT : (encP.all (l.take k)).length = k * 8 := by rw [pns_len, List.length_take]; omega
  have hlD : (encP.all (l.drop k)).length = (l.length - k) * 8 := by rw [pns_len, List.length_drop]
  have hlL := pns_len l
  have hcut0 := pns_cut l k
  have hTk0 : (encP.all l).take (k * 8) = encP.all (l.take k) := by rw [hcut0, List.take_append_of_le_length (by omega), List.take_of_length_le (by omega)]
  have hres0 : encP.all (l.take k ++ x :: l.drop k) = encP.all (l.take k) ++ ((pnC x).toList ++ encP.all (l.drop k)) := by rw [encP.all_app, encP.all_cons]; rfl
  have h1 : ∀ u ∈ (pnC x).toList, u.oneCell' = true := by exact encP.one x
  have h1d := encP.all_one1 (l.drop k)
  obtain ⟨res, hr⟩ : ∃ r, encP.all (l.take k ++ x :: l.drop k) = r := ⟨_, rfl⟩
  obtain ⟨T, hT⟩ : ∃ T, encP.all (l.take k) = T := ⟨_, rfl⟩
  obtain ⟨D, hD⟩ : ∃ D, encP.all (l.drop k) = D := ⟨_, rfl⟩
  obtain ⟨L, hL⟩ : ∃ L, encP.all l = L := ⟨_, rfl⟩
  obtain ⟨n, hn⟩ : ∃ n, l.length = n := ⟨_, rfl⟩
  rw [hr, hT, hD] at hres0
  rw [hT, hD, hL] at hcut0
  rw [hT] at hlT
  rw [hL, hT] at hTk0
  rw [hD, hn] at hlD
  rw [hD] at h1d
  rw [hL] at hlL H0
  rw [hn] at hl hk H0 hlL ⊢
  rw [hr]
  have hres := Lib.hid hres0
  have hcut := Lib.hid hcut0
  have hTk := Lib.hid hTk0
  have hlLh := Lib.hid hlL
  clear hr hT hD hL hres0 hcut0 hTk0 hlL hn
  have hsp := own_shape (H0.row 0 rfl)
  have hadd := blk_add (H0.blk 1 rfl)
  by_cases hkn : k = n
  · subst hkn
    have hD0 : D = [] := List.eq_nil_of_length_eq_zero (by omega)
    have hresA := Lib.hid (show res = L ++ (pnC x).toList by rw [hres.out, hcut.out, hD0]; simp)
    have hb : (k + 1) * 96 ≤ 140737488355328 := by omega
    rcases hsp with ⟨rfl, rfl⟩ | ⟨g, cap, rfl, hc, hg⟩
    · go_enter Tryz.func198, Tryz.ntmps198
      go_wp2_with (at_builtin; go_must (refine St.list_add H0 0 rfl rfl (.tmp 23) (.tmp 24) 43 rfl Tryz.underlying43 Tryz.info68 (by decide) rfl (pnC x).toList rfl rfl (by intro h; cases h) hadd h1 hb ?_; intro v' w1 H1 hz))
      go_ret
      rw [hresA.out]
      exact ⟨v', rfl, H1⟩
    · have hc1 : (k : Int) ≤ (cap : Int) := by omega
      go_enter Tryz.func198, Tryz.ntmps198
      go_wp2_with (at_builtin; go_must (refine St.list_add H0 0 rfl rfl (.tmp 23) (.tmp 24) 43 rfl Tryz.underlying43 Tryz.info68 (by decide) rfl (pnC x).toList rfl rfl (by intro h; cases h) hadd h1 hb ?_; intro v' w1 H1 hz))
      all_goals
        go_ret
        rw [hresA.out]
        exact ⟨v', rfl, H1⟩
  · have hkl : k < n := by omega
    rcases hsp with ⟨rfl, hz0⟩ | ⟨g, cap, rfl, hc, hg⟩
    · omega
    obtain ⟨n1, hn1⟩ : ∃ n1, n + 1 = n1 := ⟨_, rfl⟩
    obtain ⟨k1, hk1⟩ : ∃ k1, k + 1 = k1 := ⟨_, rfl⟩
    have hw1 : IntKind.i64.wrap ((n : Int) + 1) = (n1 : Int) := by rw [IntKind.wrap_i64]; omega
    have hw2 : IntKind.i64.wrap ((k : Int) + 1) = (k1 : Int) := by rw [IntKind.wrap_i64]; omega
    have z1 : ((k : Int) == (n : Int)) = false := by simp; omega
    have z1' : (k == n) = false := by simp; omega
    have c1 : (n : Int) ≤ (cap : Int) := by omega
    have c2 : (k : Int) ≤ (n : Int) := by omega
    have c3 : (k : Int) ≤ (cap : Int) := by omega
    have c3' : k ≤ cap := by omega
    have c4 : (k : Int) ≤ (n1 : Int) := by omega
    have c4' : k ≤ n1 := by omega
    have c5 : (k1 : Int) ≤ (n1 : Int) := by omega
    have c5' : k1 ≤ n1 := by omega
    have n1c : ¬ cap = k := by omega
    by_cases hcap : cap < n1
    · obtain ⟨d, hd⟩ : ∃ d : Nat, k + d = n1 := ⟨n1 - k, by omega⟩
      have hw3 : IntKind.i64.wrap ((n1 : Int) - (k : Int)) = (d : Int) := by rw [IntKind.wrap_i64]; omega
      have z2 : decide ((cap : Int) < (n1 : Int)) = true := by simp; omega
      go_enter Tryz.func198, Tryz.ntmps198
      go_upto_region 10 with (at_builtin; go_must (refine St.list_zeros H0 0 rfl rfl (.tmp 34) (.tmp 39) 43 3 rfl Tryz.underlying43 Tryz.underlying3 Tryz.info68 (by decide) (k := k) (m := d) hd rfl rfl hk (by omega) hcap (by omega) (by omega) ?_; intro G C Z w1 H1 hZ hC hCm hz))
      rw [hTk.out] at H1 hZ
      have n2c : ¬ C = k := by omega
      have n3c : ¬ C = k1 := by omega
      have c6 : (n1 : Int) ≤ (C : Int) := by omega
      have c7 : (k : Int) ≤ (C : Int) := by omega
      have c7' : k ≤ C := by omega
      have c8 : (k1 : Int) ≤ (C : Int) := by omega
      have c8' : k1 ≤ C := by omega
      have hmin : Nat.min 1 (n1 - k) = 1 := by show min 1 (n1 - k) = 1; omega
      have hX : (pnC x).toList.length = Nat.min 1 (n1 - k) * 8 := by rw [hmin]; exact (rfl : (pnC x).toList.length = 8)
      have hZl : (T ++ Z).length = C * 8 := hZ
      go_upto_region 11 with ((with_reducible show Go.wpList _ _ _ (Oper.mk (some 45) _ _ _ _ _ :: _) _ _); go_must (refine St.list_copyK H1 0 rfl rfl (.tmp 43) (.tmp 44) 43 rfl (elem := 68) (size := 8) Tryz.underlying43 (by kernel_rfl) rfl rfl (pnC x).toList hX (blk_add (H1.blk 2 rfl) _ rfl) h1 (by rw [hZl]; show k * 8 + 8 ≤ _; omega) ?_; intro w2 H2 hz2))
      clear H1 hadd hz
      have hZ2 : (splice (T ++ Z) (k * 8) (pnC x).toList).length = C * 8 := by
        unfold splice
        have e3 : (pnC x).toList.length = 8 := rfl
        simp only [List.length_append, List.length_take, List.length_drop, e3] at hZl ⊢
        omega
      have hminD : Nat.min (n - k) (n1 - k1) = n - k := by show min (n - k) (n1 - k1) = n - k; omega
      refine wp_calm_tail 8 (fun w' => St S w w' [Blk G (splice (T ++ Z) (k * 8) (pnC x).toList).toArray 68, Row 68 8 (.slice (some ⟨g, 0, none⟩) n cap) n L, Blk g2 (pnC x) 68]) (by kernel_rfl) (by kernel_rfl) (H2.drew) ?_
      simp only [List.take_succ_cons, List.take_zero, List.drop_succ_cons, List.drop_zero]
      iterate 8 first
        | (apply calm_pass
           · rfl
           intro K hK
           go_simp
           refine hK _ ?_
           clear hK K)
        | (apply calm_step
           · rfl
           · intro w1 h1
             first
               | (go_simp
                  first
                    | rfl
                    | exact ⟨rfl, h1⟩
                 )
           intro K hK
           go_simp
           refine hK _ ?_
           clear hK K)
      refine calm_nil ?_
      intro w3 H3
      have hcp := fun j u (hj : D[j]? = some u) => own_cell (H3.row 1 rfl) (show L[k * 8 + j]? = some u by rw [hcut.out, List.getElem?_append_right (by omega), hlT, Nat.add_sub_cancel_left]; exact hj)
      go_wp2_with ((with_reducible show Go.wpList _ _ _ (Oper.mk (some 54) _ _ _ _ _ :: _) _ _); go_must (refine St.list_copyK H3 0 rfl rfl (.tmp 50) (.tmp 53) 43 rfl (elem := 68) (size := 8) Tryz.underlying43 (by kernel_rfl) rfl rfl D (by rw [hminD]; exact hlD) (fun j u hj => by rw [Addr.add_mid]; exact hcp j u hj) h1d (by rw [hZ2, hlD]; omega) ?_; intro w4 H4 hz4))
      go_ret
      have hfin := ins_new (T := T) (Z := Z) (X := (pnC x).toList) (D := D) (a := k * 8) (b := k1 * 8) (c := n1 * 8) hlT (by show k * 8 + 8 = k1 * 8; omega) (by rw [hlD]; omega) (by rw [hZl]; omega)
      have H5 := H4.blk_row 0 (e := 68) (size := 8) (cap := C) (n := n1) (xs := res) rfl hC hCm (by rw [hfin.2, hZl]) (by rw [hfin.1, hres.out])
      exact ⟨_, rfl, H5.pick [0, 2]⟩
    · obtain ⟨g', cap', R, hv, hnc, hcm, hxl, hcs, HB⟩ := H0.row_blk 0 rfl (by omega)
      obtain ⟨rfl, rfl⟩ : g = g' ∧ cap = cap' := by injection hv with h1 _ h2; injection h1 with h1; injection h1 with h1; exact ⟨h1, h2⟩
      rw [hcut.out] at HB hcs
      have HB : St S w w [Blk g (T ++ D ++ R).toArray 68, Blk g2 (pnC x) 68] := HB
      rw [List.append_assoc] at HB hcs
      clear hv hxl H0 hadd
      have z2 : decide ((cap : Int) < (n1 : Int)) = false := by simp; omega
      have z2' : decide (cap < n1) = false := by simp; omega
      have c6 : (n1 : Int) ≤ (cap : Int) := by omega
      have c6' : n1 ≤ cap := by omega
      have c8 : (k1 : Int) ≤ (cap : Int) := by omega
      have c8' : k1 ≤ cap := by omega
      have n3c : ¬ cap = k1 := by omega
      have hne : g2 ≠ g := fun e => by
        subst e
        obtain ⟨S1, hs1, hs2, S2, hs3, hs4, _⟩ := HB.sep
        exact (hs4 g2 ((hs3.2 g2).2 rfl)).2 ((hs1.2 g2).2 rfl)
      have hov := fun n' c' o2 n2 c2 => overlaps_panes (w := w) (o := 0) (n := n') (c := c') (o2 := o2) (n2 := n2) (c2 := c2) hne (HB.blk 1 rfl) (HB.blk 0 rfl)
      have hminD : Nat.min (n1 - k) (n1 - k1) = n - k := by show min (n1 - k) (n1 - k1) = n - k; omega
      have hmin : Nat.min 1 (n1 - k) = 1 := by show min 1 (n1 - k) = 1; omega
      have hX : (pnC x).toList.length = Nat.min 1 (n1 - k) * 8 := by rw [hmin]; exact (rfl : (pnC x).toList.length = 8)
      go_enter Tryz.func198, Tryz.ntmps198
      go_upto_region 15 with (fail)
      refine wp_calm_tail 8 (fun w' => St S w w' [Blk g (T ++ (D ++ R)).toArray 68, Blk g2 (pnC x) 68]) (by kernel_rfl) (by kernel_rfl) (HB.drew) ?_
      simp only [List.take_succ_cons, List.take_zero, List.drop_succ_cons, List.drop_zero]
      iterate 8 first
        | (apply calm_pass
           · rfl
           intro K hK
           go_simp
           refine hK _ ?_
           clear hK K)
        | (apply calm_step
           · rfl
           · intro w1 h1
             first
               | (go_simp
                  first
                    | rfl
                    | exact ⟨rfl, h1⟩
                 )
           intro K hK
           go_simp
           refine hK _ ?_
           clear hK K)
      refine calm_nil ?_
      intro w3 H3
      have hcp := fun j u (hj : D[j]? = some u) => cell_blk' (H3.blk 0 rfl) (show (T ++ (D ++ R)).toArray[k * 8 + j]? = some u by rw [List.getElem?_toArray, List.getElem?_append_right (by omega), hlT, Nat.add_sub_cancel_left, List.getElem?_append_left (List.getElem?_eq_some_iff.1 hj).1]; exact hj)
      go_upto_region 16 with ((with_reducible show Go.wpList _ _ _ (Oper.mk (some 77) _ _ _ _ _ :: _) _ _); go_must (refine St.list_copyK H3 0 rfl rfl (.tmp 73) (.tmp 76) 43 rfl (elem := 68) (size := 8) Tryz.underlying43 (by kernel_rfl) rfl rfl D (by rw [hminD]; exact hlD) (fun j u hj => by rw [Addr.add_mid]; exact hcp j u hj) h1d (by rw [hcs, hlD]; omega) ?_; intro w4 H4 hz4))
      have hsl : (splice (T ++ (D ++ R)) (k1 * 8) D).length = cap * 8 := by
        rw [← hcs]
        unfold splice
        simp only [List.length_append, List.length_take, List.length_drop] at hcs ⊢
        omega
      go_wp2_with ((with_reducible show Go.wpList _ _ _ (Oper.mk (some 82) _ _ _ _ _ :: _) _ _); go_must (refine St.list_copyK H4 0 rfl rfl (.tmp 80) (.tmp 81) 43 rfl (elem := 68) (size := 8) Tryz.underlying43 (by kernel_rfl) rfl rfl (pnC x).toList hX (blk_add (H4.blk 1 rfl) _ rfl) h1 (by rw [hsl]; show k * 8 + 8 ≤ _; omega) ?_; intro w5 H5 hz5))
      go_ret
      have hfin := ins_old (T := T) (R := R) (X := (pnC x).toList) (D := D) (a := k * 8) (b := k1 * 8) (c := n1 * 8) hlT (by show k * 8 + 8 = k1 * 8; omega) (by rw [hlD]; omega) (by rw [hcs]; omega)
      exact ⟨_, rfl, H5.blk_row 0 (e := 68) (size := 8) (cap := cap) (n := n1) (xs := res) rfl c6' hcm (by rw [hfin.2, hcs]) (by rw [hfin.1, hres.out])⟩
end Go.Proofs.YtiglgfonhdfpmaaGreat
