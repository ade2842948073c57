import Derived.Test.YtiglgfonhdfpmaaGreatOr17
/- The document's Merge of two right ones that hold something: answers as the sum is right. (Printed by a program of mine.) -/
set_option linter.unusedVariables false
set_option linter.unusedSimpArgs false
set_option maxHeartbeats 16000000
set_option maxRecDepth 100000
namespace Go.Proofs.YtiglgfonhdfpmaaGreat
open Go.RowKit
def DocSum (q : Qry) (g : Ag) (w : World) (e : Ending) (w' : World) : Prop :=
 if g.right q = true then ∃ h, e = .returned (.tuple #[agV g h, .bool true]) ∧ zS w w' [Row 3 1 h g.top.length (intCells g.top)] else e = .returned (.tuple #[.agg #[.int .i64 0, .int .i64 0, .slice none 0 0, .complex .f64 0 0], .bool false]) ∧ zS w w' []
abbrev zbzP (a0) := (Row 3 1 (.slice (some ⟨a0, 0, none⟩) 0 0) 0 [] : SP)
theorem doc_sum (q : Qry) (g1 g2 : Ag) {h1 h2 : Value} (w : World) (hr1 : IntsRO w h1 g1.top) (hr2 : IntsRO w h2 g2.top) (hg1 : g1.right q = true) (hg2 : g2.right q = true) (hn1 : g1.n ≠ 0) (hn2 : g2.n ≠ 0) :
    Calls Tryz.prog 187 #[qyV q, agV g1 h1, agV g2 h2] w fun e w' => DocSum q (sumM q g1 g2) w e w' := by
 have m1 := right_nums hg1; have m2 := right_nums hg2; have hr1h := zH hr1; have hr2h := zH hr2
 obtain ⟨knone, knews⟩ : (∀ ad cp, h1 = .slice ad g1.top.length cp → ad = none → g1.top.length = 0) ∧ (∀ w' (hk : Kept (fun _ => False) w w') ad cp, h1 = .slice (some ad) g1.top.length cp → ∀ (j : Nat) u, (intCells g1.top)[j]? = some u → w'.cell? (ad.add j) = some u) := by
  obtain ⟨ad, cp, rfl, _, _, h⟩ := hr1; refine ⟨fun ad' cp' e e2 => ?_, fun w' hk ad' cp' e j u hj => ?_⟩
  · simp only [Value.slice.injEq, true_and] at e; obtain ⟨rfl, rfl⟩ := e; refine Classical.byContradiction fun hc => ?_
    obtain ⟨b, o, e3, -⟩ := h (fun e => hc (by rw [e]; rfl))
    rw [e2] at e3; cases e3
  · simp only [Value.slice.injEq, true_and] at e; obtain ⟨rfl, rfl⟩ := e; have hne : g1.top ≠ [] := fun e => by rw [e] at hj; simp [intCells] at hj
    obtain ⟨b, o, e3, hb, hx⟩ := h hne
    injection e3 with e3
    subst e3; rw [Addr.add_mid]; unfold intCells at hj; rw [List.getElem?_map] at hj; obtain ⟨x, hx1, rfl⟩ := Option.map_eq_some_iff.1 hj; exact (World.cell?_of_block (hk.block b hb id)).trans (hx j x hx1)
 obtain ⟨ad1, cp1, rfl, -, -, -⟩ := hr1; obtain ⟨ad2, cp2, rfl, -, -, -⟩ := hr2; have knone := fun e => knone ad1 cp1 rfl e
 have knews := fun w' (hk : Kept (fun _ => False) w w') ad (e : ad1 = some ad) => knews w' hk ad cp1 (by rw [e])
 have hm1 := zH hg1; have hm2 := zH hg2; obtain ⟨kd, sz, sl, lt, ag, kk⟩ := q; obtain ⟨n, a, tp, x, y⟩ := g1; obtain ⟨m, c, tq, u, v⟩ := g2; simp only at m1 m2 knone knews hn1 hn2 hr1h hr2h; obtain ⟨hagg, ⟨n0, nm⟩, ha, htl, px, py, hx, hy⟩ := m1; obtain ⟨-, ⟨m0, mm⟩, hc, htl2, px2, py2, hu, hv⟩ := m2; have cs := fun (t : TypeId) w' => ib_sum (x := x) (y := y) (u := u) (v := v) (by omega) (by omega) (by omega) (by omega) t w'
 unfold qyV agV qyC agC; simp only; obtain ⟨X, hX⟩ := zNm (ib x); obtain ⟨Y, hY⟩ := zNm (ib y); obtain ⟨U, hU⟩ := zNm (ib u); obtain ⟨W, hW⟩ := zNm (ib v); obtain ⟨VX, hVX⟩ := zNm (ib (x + u)); obtain ⟨VY, hVY⟩ := zNm (ib (y + v)); simp only [hX, hY, hU, hW, hVX, hVY] at cs ⊢; have hVX := zH hVX; have hVY := zH hVY; have hs1 : IntKind.i64.wrap (n + m) = n + m := by rw [IntKind.wrap_i64]; omega
 have hs2 : IntKind.i64.wrap (a + c) = a + c := by rw [IntKind.wrap_i64]; omega
 obtain ⟨R, hR⟩ := zNm (sumM ⟨kd, sz, sl, lt, ag, kk⟩ ⟨n, a, tp, x, y⟩ ⟨m, c, tq, u, v⟩); rw [hR]; have hRh := zH hR; have hgx := zH hx; clear hX hY hU hW hR px py px2 py2 hx hy hu hv hg1 hg2; have zn : (n == 0) = false := by simpa using hn1
 have zm : (m == 0) = false := by simpa using hn2
 obtain ⟨b, hb⟩ := zNm w.heap.size; obtain ⟨b1, hb1⟩ := zNm (b + 1); obtain ⟨b2, hb2⟩ := zNm (b1 + 1); obtain ⟨b3, hb3⟩ := zNm (b2 + 1); have sz1 : ∀ (w : World) (o : Obj), (w.alloc o).heap.size = w.heap.size + 1 := fun w o => Array.size_push _
 have H0 : zS w _ [_] := (St.nil _ w).allocAt hb #[.int .i64 kd, .int .i64 sz, .int .i64 sl, .int .i64 lt, .int .i64 ag, .int .i64 kk] 23; have s1 : (w.alloc (.cells #[.int .i64 kd, .int .i64 sz, .int .i64 sl, .int .i64 lt, .int .i64 ag, .int .i64 kk] 23)).heap.size = b1 := by rw [sz1, hb, hb1]
 have H1 := H0.allocAt (B := b1) s1 #[.int .i64 n, .int .i64 a, .slice ad1 tp.length cp1, .complex .f64 X Y] 66; have s2 : ((w.alloc (.cells #[.int .i64 kd, .int .i64 sz, .int .i64 sl, .int .i64 lt, .int .i64 ag, .int .i64 kk] 23)).alloc (.cells #[.int .i64 n, .int .i64 a, .slice ad1 tp.length cp1, .complex .f64 X Y] 66)).heap.size = b2 := by rw [sz1, s1, hb2]
 have H2 := H1.allocAt (B := b2) s2 #[.int .i64 m, .int .i64 c, .slice ad2 tq.length cp2, .complex .f64 U W] 66; have s3 : (((w.alloc (.cells #[.int .i64 kd, .int .i64 sz, .int .i64 sl, .int .i64 lt, .int .i64 ag, .int .i64 kk] 23)).alloc (.cells #[.int .i64 n, .int .i64 a, .slice ad1 tp.length cp1, .complex .f64 X Y] 66)).alloc (.cells #[.int .i64 m, .int .i64 c, .slice ad2 tq.length cp2, .complex .f64 U W] 66)).heap.size = b3 := by rw [sz1, s2, hb3]
 have H3 := H2.allocAt (B := b3) s3 #[.int .i64 0, .int .i64 0, .slice none 0 0, .complex .f64 0 0] 66; obtain ⟨w1, hw1⟩ := zNm ((((w.alloc (.cells #[.int .i64 kd, .int .i64 sz, .int .i64 sl, .int .i64 lt, .int .i64 ag, .int .i64 kk] 23)).alloc (.cells #[.int .i64 n, .int .i64 a, .slice ad1 tp.length cp1, .complex .f64 X Y] 66)).alloc (.cells #[.int .i64 m, .int .i64 c, .slice ad2 tq.length cp2, .complex .f64 U W] 66)).alloc (.cells #[.int .i64 0, .int .i64 0, .slice none 0 0, .complex .f64 0 0] 66)); rw [hw1] at H3
 go_enter Tryz.func187, Tryz.ntmps187
 go_upto_region 1 with (fail)
 (try simp only [hb, hb1, hb2, hb3]); (try rw [hw1]); have hbh := zH hb; clear hw1 s1 s2 s3 sz1 H0 H1 H2 hb hb1 hb2 hb3; have H3 : zS w w1 [zhP b3, zdP b2 m c ad2 tq.length cp2 U W, zdP b1 n a ad1 tp.length cp1 X Y, zaP b kd sz sl lt ag kk] := H3; have i0 := H3.cell 1 0 rfl rfl; have i1 := H3.cell 1 1 rfl rfl; have i2 := H3.cell 1 2 rfl rfl; have i3 := H3.cell 1 3 rfl rfl; have d0 := H3.cell 2 0 rfl rfl; have d1 := H3.cell 2 1 rfl rfl; have d2 := H3.cell 2 2 rfl rfl; have d3 := H3.cell 2 3 rfl rfl; go_upto_region 5 with (fail)
 clear i0 i1 i2 i3 d0 d1 d2 d3
 go_cut [8] from 19 to 38 (fun p8 wx => ∃ (ob : Nat) (ta : Option Addr) (tc : Nat), p8 = .pointer (some ⟨ob, 0, none⟩) ∧ zS w wx [zxP (intCells tp) ta tp.length tc, zdP ob (n + m) (a + c) ta tp.length tc VX VY, zhP b3, zdP b2 m c ad2 tq.length cp2 U W, zdP b1 n a ad1 tp.length cp1 X Y, zaP b kd sz sl lt ag kk])
 case first =>
  refine wp_plan (.small 0 (.small 1 (.small 2 (.small 3 (.small 4 (.small 5 (.small 6 (.small 7 (.small 8 (.small 9 (.small 10 (.small 11 (.small 12 (.small 13 (.small 14 (.small 16 (.small 17 (.fork 15 20 (.fork 18 20 (.small 19 (.alone 20 (.alone 21 .nil))) (.alone 18 (.small 19 (.alone 21 .nil)))) (.alone 15 (.alone 18 (.small 19 (.alone 21 .nil)))))))))))))))))))))) (Fam fun w' => zS w w' [zhP b3, zdP b2 m c ad2 tq.length cp2 U W, zdP b1 n a ad1 tp.length cp1 X Y, zaP b kd sz sl lt ag kk]) (fun w' => zS w w' [zhP b3, zdP b2 m c ad2 tq.length cp2 U W, zdP b1 n a ad1 tp.length cp1 X Y, zaP b kd sz sl lt ag kk]) (by kernel_rfl) (by rfl) (by kernel_rfl) (by kernel_rfl) H3.drew (Fam.st (fun _ h => h.pick [0, 1, 2, 3])) ?_
  iterate 17 first | (apply plan_pass; rfl; rfl; intro K hK; go_simp; refine hK _ ?_; clear hK K) | (apply plan_step; rfl; rfl; (focus (intro I hI w1 h1'; have h1 := hI.2 _ h1'; have i0 := h1.cell 1 0 rfl rfl; have i1 := h1.cell 1 1 rfl rfl; have i2 := h1.cell 1 2 rfl rfl; have i3 := h1.cell 1 3 rfl rfl; have d0 := h1.cell 2 0 rfl rfl; have d1 := h1.cell 2 1 rfl rfl; have d2 := h1.cell 2 2 rfl rfl; have d3 := h1.cell 2 3 rfl rfl; first | (go_simp; first | rfl | exact ⟨rfl, h1'⟩))); intro K hK; go_simp; refine hK _ ?_; clear hK K)
  refine plan_two rfl rfl rfl rfl ?_ ?_
  · skip
    intro V hV w1 h1
    go_simp
    obtain ⟨eb, heb⟩ := zNm w1.heap.size; have HX : zS w _ [Blk eb #[] 3, zhP b3, zdP b2 m c ad2 tq.length cp2 U W, zdP b1 n a ad1 tp.length cp1 X Y, zaP b kd sz sl lt ag kk] := h1.allocAt heb #[] 3; have HY : zS w _ [zbzP eb, zhP b3, zdP b2 m c ad2 tq.length cp2 U W, zdP b1 n a ad1 tp.length cp1 X Y, zaP b kd sz sl lt ag kk] := St.blk_row (cs := []) (xs := []) (size := 1) HX 0 rfl (Nat.le_refl 0) (Nat.zero_le _) rfl rfl; simp only [heb]; refine ⟨fun w' => zS w w' [zbzP eb, zhP b3, zdP b2 m c ad2 tq.length cp2 U W, zdP b1 n a ad1 tp.length cp1 X Y, zaP b kd sz sl lt ag kk], hV _ _ _ (fun _ h => h) (Fam.st (fun _ h => h.pick [1, 2, 3, 4])) ?_, HY⟩
    intro K hK
    go_simp
    refine hK _ ?_; clear hK K hV V; clear HY h1 HX heb w1; refine plan_two rfl rfl rfl rfl ?_ ?_
    · skip
      intro V hV w1 h1; refine h1.came_append 0 rfl (.tmp 34) (.tmp 36) 33 rfl Tryz.underlying33 Tryz.info3 (by decide) rfl (intCells tp) rfl (by simp [intCells]) (fun e => knone e) (fun ad e j u hj => knews _ h1.kept ad e j u hj) (one_ints tp) (by omega) ?_
      intro v' w2 HX; simp only [Nat.zero_add, List.nil_append] at HX; obtain ⟨ta, tc, rfl, -, -⟩ := slice_form' (HX.row 0 rfl); have HY : zS w w2 [zxP (intCells tp) ta tp.length tc, zhP b3, zdP b2 m c ad2 tq.length cp2 U W, zdP b1 n a ad1 tp.length cp1 X Y, zaP b kd sz sl lt ag kk] := HX; refine ⟨fun w' => zS w w' [zxP (intCells tp) ta tp.length tc, zhP b3, zdP b2 m c ad2 tq.length cp2 U W, zdP b1 n a ad1 tp.length cp1 X Y, zaP b kd sz sl lt ag kk], hV _ _ _ (fun _ h => h) (Fam.st (fun _ h => h.pick [1, 2, 3, 4])) ?_, HY⟩
      intro K hK
      go_simp
      refine hK _ ?_; clear hK K hV V; clear HY HX h1 w1 w2
      iterate 1 first | (apply plan_pass; rfl; rfl; intro K hK; go_simp; refine hK _ ?_; clear hK K) | (apply plan_step; rfl; rfl; (focus (intro I hI w1 h1'; have h1 := hI.2 _ h1'; first | (go_simp; first | rfl | exact ⟨rfl, h1'⟩))); intro K hK; go_simp; refine hK _ ?_; clear hK K)
      refine plan_one rfl rfl ?_; intro V hV w1 h1
      go_simp
      obtain ⟨ob, hob⟩ := zNm w1.heap.size; have HX : zS w _ [zhP ob, zxP (intCells tp) ta tp.length tc, zhP b3, zdP b2 m c ad2 tq.length cp2 U W, zdP b1 n a ad1 tp.length cp1 X Y, zaP b kd sz sl lt ag kk] := h1.allocAt hob #[.int .i64 0, .int .i64 0, .slice none 0 0, .complex .f64 0 0] 66; simp only [hob]; refine ⟨fun w' => zS w w' [zhP ob, zxP (intCells tp) ta tp.length tc, zhP b3, zdP b2 m c ad2 tq.length cp2 U W, zdP b1 n a ad1 tp.length cp1 X Y, zaP b kd sz sl lt ag kk], hV _ _ _ (fun _ h => h) (Fam.st (fun _ h => h.pick [2, 3, 4, 5])) ?_, HX⟩
      intro K hK
      go_simp
      refine hK _ ?_; clear hK K hV V; clear HX h1 hob w1; refine plan_one rfl rfl ?_; intro V hV w1 h1; refine h1.came_store 0 rfl 66 (.tmp 8) (.tmp 38) rfl #[.int .i64 (n + m), .int .i64 (a + c), .slice ta tp.length tc, .complex .f64 VX VY] rfl rfl (by kernel_rfl) (Nat.zero_lt_succ _) rfl (by simp [allOne, Value.oneCell']) ?_
      intro w2 HX; refine ⟨fun w' => zS w w' [zdP ob (n + m) (a + c) ta tp.length tc VX VY, zxP (intCells tp) ta tp.length tc, zhP b3, zdP b2 m c ad2 tq.length cp2 U W, zdP b1 n a ad1 tp.length cp1 X Y, zaP b kd sz sl lt ag kk], hV _ _ _ (fun _ h => h) (Fam.st (fun _ h => h.pick [2, 3, 4, 5])) ?_, HX⟩
      intro K hK
      go_simp
      refine hK _ ?_; clear hK K hV V; clear HX h1 w1 w2; refine plan_nil ?_; intro w9 H9; go_wp2; go_meet; exact ⟨ob, ta, tc, rfl, H9.pick [1, 0, 2, 3, 4, 5]⟩
    · skip
      intro V hV w1 h1
      go_simp
      obtain ⟨ob, hob⟩ := zNm w1.heap.size; have HX : zS w _ [zhP ob, zbzP eb, zhP b3, zdP b2 m c ad2 tq.length cp2 U W, zdP b1 n a ad1 tp.length cp1 X Y, zaP b kd sz sl lt ag kk] := h1.allocAt hob #[.int .i64 0, .int .i64 0, .slice none 0 0, .complex .f64 0 0] 66; simp only [hob]; refine ⟨fun w' => zS w w' [zhP ob, zbzP eb, zhP b3, zdP b2 m c ad2 tq.length cp2 U W, zdP b1 n a ad1 tp.length cp1 X Y, zaP b kd sz sl lt ag kk], hV _ _ _ (fun _ h => h) (Fam.st (fun _ h => h.pick [2, 3, 4, 5])) ?_, HX⟩
      intro K hK
      go_simp
      refine hK _ ?_; clear hK K hV V; clear HX h1 hob w1; refine plan_one rfl rfl ?_; intro V hV w1 h1; refine h1.came_append 1 rfl (.tmp 34) (.tmp 36) 33 rfl Tryz.underlying33 Tryz.info3 (by decide) rfl (intCells tp) rfl (by simp [intCells]) (fun e => knone e) (fun ad e j u hj => knews _ h1.kept ad e j u hj) (one_ints tp) (by omega) ?_
      intro v' w2 HX; simp only [Nat.zero_add, List.nil_append] at HX; obtain ⟨ta, tc, rfl, -, -⟩ := slice_form' (HX.row 1 rfl); have HY : zS w w2 [zhP ob, zxP (intCells tp) ta tp.length tc, zhP b3, zdP b2 m c ad2 tq.length cp2 U W, zdP b1 n a ad1 tp.length cp1 X Y, zaP b kd sz sl lt ag kk] := HX; refine ⟨fun w' => zS w w' [zhP ob, zxP (intCells tp) ta tp.length tc, zhP b3, zdP b2 m c ad2 tq.length cp2 U W, zdP b1 n a ad1 tp.length cp1 X Y, zaP b kd sz sl lt ag kk], hV _ _ _ (fun _ h => h) (Fam.st (fun _ h => h.pick [2, 3, 4, 5])) ?_, HY⟩
      intro K hK
      go_simp
      refine hK _ ?_; clear hK K hV V; clear HY HX h1 w1 w2
      iterate 1 first | (apply plan_pass; rfl; rfl; intro K hK; go_simp; refine hK _ ?_; clear hK K) | (apply plan_step; rfl; rfl; (focus (intro I hI w1 h1'; have h1 := hI.2 _ h1'; first | (go_simp; first | rfl | exact ⟨rfl, h1'⟩))); intro K hK; go_simp; refine hK _ ?_; clear hK K)
      refine plan_one rfl rfl ?_; intro V hV w1 h1; refine h1.came_store 0 rfl 66 (.tmp 8) (.tmp 38) rfl #[.int .i64 (n + m), .int .i64 (a + c), .slice ta tp.length tc, .complex .f64 VX VY] rfl rfl (by kernel_rfl) (Nat.zero_lt_succ _) rfl (by simp [allOne, Value.oneCell']) ?_
      intro w2 HX; refine ⟨fun w' => zS w w' [zdP ob (n + m) (a + c) ta tp.length tc VX VY, zxP (intCells tp) ta tp.length tc, zhP b3, zdP b2 m c ad2 tq.length cp2 U W, zdP b1 n a ad1 tp.length cp1 X Y, zaP b kd sz sl lt ag kk], hV _ _ _ (fun _ h => h) (Fam.st (fun _ h => h.pick [2, 3, 4, 5])) ?_, HX⟩
      intro K hK
      go_simp
      refine hK _ ?_; clear hK K hV V; clear HX h1 w1 w2; refine plan_nil ?_; intro w9 H9; go_wp2; go_meet; exact ⟨ob, ta, tc, rfl, H9.pick [1, 0, 2, 3, 4, 5]⟩
  · skip
    intro V hV w1 h1
    go_simp
    obtain ⟨ob, hob⟩ := zNm w1.heap.size; have HX : zS w _ [zhP ob, zhP b3, zdP b2 m c ad2 tq.length cp2 U W, zdP b1 n a ad1 tp.length cp1 X Y, zaP b kd sz sl lt ag kk] := h1.allocAt hob #[.int .i64 0, .int .i64 0, .slice none 0 0, .complex .f64 0 0] 66; simp only [hob]; refine ⟨fun w' => zS w w' [zhP ob, zhP b3, zdP b2 m c ad2 tq.length cp2 U W, zdP b1 n a ad1 tp.length cp1 X Y, zaP b kd sz sl lt ag kk], hV _ _ _ (fun _ h => h) (Fam.st (fun _ h => h.pick [1, 2, 3, 4])) ?_, HX⟩
    intro K hK
    go_simp
    refine hK _ ?_; clear hK K hV V; clear HX h1 hob w1; refine plan_one rfl rfl ?_; intro V hV w1 h1
    go_simp
    obtain ⟨eb, heb⟩ := zNm w1.heap.size; have HX : zS w _ [Blk eb #[] 3, zhP ob, zhP b3, zdP b2 m c ad2 tq.length cp2 U W, zdP b1 n a ad1 tp.length cp1 X Y, zaP b kd sz sl lt ag kk] := h1.allocAt heb #[] 3; have HY : zS w _ [zbzP eb, zhP ob, zhP b3, zdP b2 m c ad2 tq.length cp2 U W, zdP b1 n a ad1 tp.length cp1 X Y, zaP b kd sz sl lt ag kk] := St.blk_row (cs := []) (xs := []) (size := 1) HX 0 rfl (Nat.le_refl 0) (Nat.zero_le _) rfl rfl; simp only [heb]; refine ⟨fun w' => zS w w' [zbzP eb, zhP ob, zhP b3, zdP b2 m c ad2 tq.length cp2 U W, zdP b1 n a ad1 tp.length cp1 X Y, zaP b kd sz sl lt ag kk], hV _ _ _ (fun _ h => h) (Fam.st (fun _ h => h.pick [2, 3, 4, 5])) ?_, HY⟩
    intro K hK
    go_simp
    refine hK _ ?_; clear hK K hV V; clear HY h1 HX heb w1; refine plan_one rfl rfl ?_; intro V hV w1 h1; refine h1.came_append 0 rfl (.tmp 34) (.tmp 36) 33 rfl Tryz.underlying33 Tryz.info3 (by decide) rfl (intCells tp) rfl (by simp [intCells]) (fun e => knone e) (fun ad e j u hj => knews _ h1.kept ad e j u hj) (one_ints tp) (by omega) ?_
    intro v' w2 HX; simp only [Nat.zero_add, List.nil_append] at HX; obtain ⟨ta, tc, rfl, -, -⟩ := slice_form' (HX.row 0 rfl); have HY : zS w w2 [zxP (intCells tp) ta tp.length tc, zhP ob, zhP b3, zdP b2 m c ad2 tq.length cp2 U W, zdP b1 n a ad1 tp.length cp1 X Y, zaP b kd sz sl lt ag kk] := HX; refine ⟨fun w' => zS w w' [zxP (intCells tp) ta tp.length tc, zhP ob, zhP b3, zdP b2 m c ad2 tq.length cp2 U W, zdP b1 n a ad1 tp.length cp1 X Y, zaP b kd sz sl lt ag kk], hV _ _ _ (fun _ h => h) (Fam.st (fun _ h => h.pick [2, 3, 4, 5])) ?_, HY⟩
    intro K hK
    go_simp
    refine hK _ ?_; clear hK K hV V; clear HY HX h1 w1 w2
    iterate 1 first | (apply plan_pass; rfl; rfl; intro K hK; go_simp; refine hK _ ?_; clear hK K) | (apply plan_step; rfl; rfl; (focus (intro I hI w1 h1'; have h1 := hI.2 _ h1'; first | (go_simp; first | rfl | exact ⟨rfl, h1'⟩))); intro K hK; go_simp; refine hK _ ?_; clear hK K)
    refine plan_one rfl rfl ?_; intro V hV w1 h1; refine h1.came_store 1 rfl 66 (.tmp 8) (.tmp 38) rfl #[.int .i64 (n + m), .int .i64 (a + c), .slice ta tp.length tc, .complex .f64 VX VY] rfl rfl (by kernel_rfl) (Nat.zero_lt_succ _) rfl (by simp [allOne, Value.oneCell']) ?_
    intro w2 HX; refine ⟨fun w' => zS w w' [zxP (intCells tp) ta tp.length tc, zdP ob (n + m) (a + c) ta tp.length tc VX VY, zhP b3, zdP b2 m c ad2 tq.length cp2 U W, zdP b1 n a ad1 tp.length cp1 X Y, zaP b kd sz sl lt ag kk], hV _ _ _ (fun _ h => h) (Fam.st (fun _ h => h.pick [2, 3, 4, 5])) ?_, HX⟩
    intro K hK
    go_simp
    refine hK _ ?_; clear hK K hV V; clear HX h1 w1 w2; refine plan_nil ?_; intro w9 H9; go_wp2; go_meet; exact ⟨ob, ta, tc, rfl, H9.pick [0, 1, 2, 3, 4, 5]⟩
 case rest =>
  obtain ⟨ob, ta, tc, rfl, HC⟩ := hcut; clear H3 knone knews hs1 hs2 cs
  have hJd : joinedM ⟨kd, sz, sl, lt, ag, kk⟩ a c = if ag = 3 then min a c else if ag = 4 then max a c else a + c := rfl
  have hRd := hRh.out; unfold sumM at hRd; simp only at hRd; obtain ⟨J, hJ⟩ := zNm (joinedM ⟨kd, sz, sl, lt, ag, kk⟩ a c); rw [hJ] at hJd hRd; have hRdh := zH hRd; clear hRd hJ; have hk : ag = 3 ∨ ag = 4 ∨ (¬ ag = 3 ∧ ¬ ag = 4) := by omega
  have hla := laid_all hm1.out hm2.out; have hll := fun i => laid_len hm1.out hm2.out (i := i)
  have hls := fun (i : Nat) (z : Int) (h : tq[i]? = some z) => laid_succ (q := ⟨kd, sz, sl, lt, ag, kk⟩) (a := tp) h
  have hlm := fun (i : Nat) => laid_mem (q := ⟨kd, sz, sl, lt, ag, kk⟩) (a := tp) (b := tq) (i := i)
  have hl0 := laid_zero ⟨kd, sz, sl, lt, ag, kk⟩ tp tq; simp only at hla hll hls; obtain ⟨LT, hLT⟩ := zNm (laidTop ⟨kd, sz, sl, lt, ag, kk⟩ tp tq); simp only [hLT] at hla hll hls hlm hl0; have hlah := zH hla; have hllh := zH hll; have hlsh := zH hls; have hlmh := zH hlm; have hl0h := zH hl0; clear hla hll hls hlm hl0 hLT; rcases hk with rfl | rfl | ⟨h3, h4⟩
  · have c4 := HC.cell 5 4 rfl rfl; have x1 := HC.cell 4 1 rfl rfl; have y1 := HC.cell 3 1 rfl rfl; have y2 := HC.cell 3 2 rfl rfl; have o1 := HC.cell 1 1 rfl rfl; have p1 := HC.free 1 1 rfl; have hm0 : min a c = J := by rw [hJd, if_pos rfl]
    have H6 := HC.set 1 rfl 1 (.int .i64 J); have hJb : J.natAbs ≤ 17592186044416 := by omega
    clear hJd; go_upto_region 10 with (fail)
    obtain ⟨w2, hw2⟩ := zNm (wc.setCell ⟨ob, 1, none⟩ (.int .i64 J)); rw [hw2] at H6; (try rw [hw2]); clear hw2 HC c4 x1 y1 y2 o1 p1 hm0; have H7 : zS w w2 [zxP (intCells tp) ta tp.length tc, zdP ob (n + m) J ta tp.length tc VX VY, zhP b3, zdP b2 m c ad2 tq.length cp2 U W, zdP b1 n a ad1 tp.length cp1 X Y, zcbP b kd sz sl lt kk] := H6; have y2 := H7.cell 3 2 rfl rfl
    go_upto_block 1 with (fail)
    clear y2
    go_loopw [10, 60] (fun _ j wr => ∃ (i : Nat) (ta : Option Addr) (tc : Nat), i ≤ tq.length ∧ j = .int .i64 i ∧ zS w wr [Row 3 1 (.slice ta (LT i).length tc) (LT i).length (intCells (LT i)), Blk ob #[.int .i64 (n + m), .int .i64 J, .slice ta (LT i).length tc, .complex .f64 VX VY] 66, zhP b3, zdP b2 m c ad2 tq.length cp2 U W, zdP b1 n a ad1 tp.length cp1 X Y, zcbP b kd sz sl lt kk]) (fun _ j _ => tq.length - (intOf j).toNat)
    case atStart => exact ⟨0, ta, tc, Nat.zero_le _, rfl, by rw [hl0h.out]; exact H7⟩
    case round =>
     clear H7; obtain ⟨i, ta, tc, hi, rfl, HL⟩ := hrel
     by_cases hlt : i < tq.length
     · exfalso
       rcases topB_iff.1 (top_right hm2.out) with ⟨h6, -⟩ | ⟨-, e⟩
       · simp only at h6
         omega
       · simp only at e; rw [e] at hlt
         simp at hlt
     · obtain rfl : i = tq.length := by omega
       have hro : ∀ w' (L' : List SP), zS w w' (Row 3 1 (.slice ta (LT tq.length).length tc) (LT tq.length).length (intCells (LT tq.length)) :: L') → IntsRO w' (.slice ta (LT tq.length).length tc) (LT tq.length) := fun w' L' h => ints_own (h.row 0 rfl) (fun y hy => by
        obtain ⟨_, _, _, _, hrp, _⟩ := hr1h.out; obtain ⟨_, _, _, _, hrq, _⟩ := hr2h.out; rcases hlmh.out tq.length y hy with h | h
        · exact hrp y h
        · exact hrq y h)
       have f1 := Ag.right_iff.1 hm1.out; have f2 := Ag.right_iff.1 hm2.out; have g1 := right_nums hm1.out; have g2 := right_nums hm2.out; simp only at f1 f2 g1 g2; have htt := sum_top hm1.out hm2.out; simp only at htt; rw [← hlah.out] at htt
       have kr := fun w' (h : IntsRO w' (.slice ta (LT tq.length).length tc) (LT tq.length)) => doc_agr ⟨kd, sz, sl, lt, 3, kk⟩ ⟨n + m, J, LT tq.length, x + u, y + v⟩ w' h f1.1 (by simp only; omega) (by simp only; omega) (by simp only; omega) (by simp only; omega) (by
        simp only; rcases f1.2.2.2.2.2.1 with h | ⟨h, h'⟩
        · exact .inl h
        · rcases f2.2.2.2.2.2.1 with k | ⟨k, k'⟩
          · exact .inl k
          · exact .inr ⟨by omega, by omega⟩) htt (by have := hllh.out tq.length; simp only; omega)
       have eR : (⟨n + m, J, LT tq.length, x + u, y + v⟩ : Ag) = R := by rw [hlah.out]; exact hRdh.out
       obtain ⟨bb, hbb⟩ := zNm (Ag.right ⟨kd, sz, sl, lt, 3, kk⟩ ⟨n + m, J, LT tq.length, x + u, y + v⟩); rw [hbb] at kr; have hRr : Ag.right ⟨kd, sz, sl, lt, 3, kk⟩ R = bb := by rw [← eR]; exact hbb
       have hRrh := zH hRr; have eRh := zH eR; unfold qyV agV qyC agC at kr; simp only [hVX.out, hVY.out] at kr; clear f1 f2 g1 g2 htt hbb hRr eR; have c0 := HL.cell 5 0 rfl rfl; have c1 := HL.cell 5 1 rfl rfl; have c2 := HL.cell 5 2 rfl rfl; have c3 := HL.cell 5 3 rfl rfl; have c4 := HL.cell 5 4 rfl rfl; have c5 := HL.cell 5 5 rfl rfl; have o0 := HL.cell 1 0 rfl rfl; have o1 := HL.cell 1 1 rfl rfl; have o2 := HL.cell 1 2 rfl rfl; have o3 := HL.cell 1 3 rfl rfl
       cases bb with
       | true =>
        go_wp2_with (first
         | (go_at_call 179; go_must (refine (St.callPast (kr _ (hro _ _ HL)) HL).mono ?_; rintro e w8 ⟨rfl, HG⟩; clear c0 c1 c2 c3 c4 c5 o0 o1 o2 o3; have o0 := HG.cell 1 0 rfl rfl; have o1 := HG.cell 1 1 rfl rfl; have o2 := HG.cell 1 2 rfl rfl; have o3 := HG.cell 1 3 rfl rfl))
         | ((with_reducible show Go.wpList _ _ _ (Oper.mk none (Op.store 66 (Operand.tmp 6) _) _ _ _ _ :: _) _ _); go_must (refine St.list_store HG 2 rfl rfl 66 (.tmp 6) (.tmp 77) rfl #[.int .i64 (n + m), .int .i64 J, .slice ta (LT tq.length).length tc, .complex .f64 VX VY] rfl rfl (by kernel_rfl) rfl (by simp [Value.oneCell']) ?_; intro w9 HN hz9; clear hz9)))
        try simp only [Exit.inBlock, Exit.then]
        refine bodyPost_ret (results_agt rfl rfl (blk_ag (cs := [.int .i64 (n + m), .int .i64 J, .slice ta (LT tq.length).length tc, .complex .f64 VX VY]) (HN.blk 2 rfl)) Tryz.underlying66 rfl (by kernel_rfl)) rfl ?_
        unfold DocSum; rw [if_pos hRrh.out, ← eRh.out]; refine ⟨.slice ta (LT tq.length).length tc, ?_, HN.pick [0]⟩; unfold agV agC; simp only [hVX.out, hVY.out]
        first | rfl | trivial
       | false =>
        go_wp2_with (first
         | (go_at_call 179; go_must (refine (St.callPast (kr _ (hro _ _ HL)) HL).mono ?_; rintro e w8 ⟨rfl, HG⟩; clear c0 c1 c2 c3 c4 c5 o0 o1 o2 o3; have o0 := HG.cell 1 0 rfl rfl; have o1 := HG.cell 1 1 rfl rfl; have o2 := HG.cell 1 2 rfl rfl; have o3 := HG.cell 1 3 rfl rfl))
         | ((with_reducible show Go.wpList _ _ _ (Oper.mk none (Op.store 66 (Operand.tmp 6) _) _ _ _ _ :: _) _ _); go_must (refine St.list_store HG 2 rfl rfl 66 (.tmp 6) (.tmp 76) rfl #[.int .i64 0, .int .i64 0, .slice none 0 0, .complex .f64 0 0] rfl rfl (by kernel_rfl) rfl (by simp [Value.oneCell']) ?_; intro w9 HN hz9; clear hz9)))
        try simp only [Exit.inBlock, Exit.then]
        refine bodyPost_ret (results_agt rfl rfl (blk_ag (cs := [.int .i64 0, .int .i64 0, .slice none 0 0, .complex .f64 0 0]) (HN.blk 2 rfl)) Tryz.underlying66 rfl (by kernel_rfl)) rfl ?_
        unfold DocSum; rw [if_neg (by rw [hRrh.out]; simp)]
        exact ⟨rfl, HN.pick []⟩
  · have c4 := HC.cell 5 4 rfl rfl; have x1 := HC.cell 4 1 rfl rfl; have y1 := HC.cell 3 1 rfl rfl; have y2 := HC.cell 3 2 rfl rfl; have o1 := HC.cell 1 1 rfl rfl; have p1 := HC.free 1 1 rfl; have hj : J = max a c := by rw [hJd]; rfl
    have hm0 : max a c = J := hj.symm; clear hj; have H6 := HC.set 1 rfl 1 (.int .i64 J); have hJb : J.natAbs ≤ 17592186044416 := by omega
    clear hJd; go_upto_region 10 with (fail)
    obtain ⟨w2, hw2⟩ := zNm (wc.setCell ⟨ob, 1, none⟩ (.int .i64 J)); rw [hw2] at H6; (try rw [hw2]); clear hw2 HC c4 x1 y1 y2 o1 p1 hm0; have H7 : zS w w2 [zxP (intCells tp) ta tp.length tc, zdP ob (n + m) J ta tp.length tc VX VY, zhP b3, zdP b2 m c ad2 tq.length cp2 U W, zdP b1 n a ad1 tp.length cp1 X Y, zccP b kd sz sl lt kk] := H6; have y2 := H7.cell 3 2 rfl rfl
    go_upto_block 1 with (fail)
    clear y2
    go_loopw [10, 60] (fun _ j wr => ∃ (i : Nat) (ta : Option Addr) (tc : Nat), i ≤ tq.length ∧ j = .int .i64 i ∧ zS w wr [Row 3 1 (.slice ta (LT i).length tc) (LT i).length (intCells (LT i)), Blk ob #[.int .i64 (n + m), .int .i64 J, .slice ta (LT i).length tc, .complex .f64 VX VY] 66, zhP b3, zdP b2 m c ad2 tq.length cp2 U W, zdP b1 n a ad1 tp.length cp1 X Y, zccP b kd sz sl lt kk]) (fun _ j _ => tq.length - (intOf j).toNat)
    case atStart => exact ⟨0, ta, tc, Nat.zero_le _, rfl, by rw [hl0h.out]; exact H7⟩
    case round =>
     clear H7; obtain ⟨i, ta, tc, hi, rfl, HL⟩ := hrel
     by_cases hlt : i < tq.length
     · exfalso
       rcases topB_iff.1 (top_right hm2.out) with ⟨h6, -⟩ | ⟨-, e⟩
       · simp only at h6
         omega
       · simp only at e; rw [e] at hlt
         simp at hlt
     · obtain rfl : i = tq.length := by omega
       have hro : ∀ w' (L' : List SP), zS w w' (Row 3 1 (.slice ta (LT tq.length).length tc) (LT tq.length).length (intCells (LT tq.length)) :: L') → IntsRO w' (.slice ta (LT tq.length).length tc) (LT tq.length) := fun w' L' h => ints_own (h.row 0 rfl) (fun y hy => by
        obtain ⟨_, _, _, _, hrp, _⟩ := hr1h.out; obtain ⟨_, _, _, _, hrq, _⟩ := hr2h.out; rcases hlmh.out tq.length y hy with h | h
        · exact hrp y h
        · exact hrq y h)
       have f1 := Ag.right_iff.1 hm1.out; have f2 := Ag.right_iff.1 hm2.out; have g1 := right_nums hm1.out; have g2 := right_nums hm2.out; simp only at f1 f2 g1 g2; have htt := sum_top hm1.out hm2.out; simp only at htt; rw [← hlah.out] at htt
       have kr := fun w' (h : IntsRO w' (.slice ta (LT tq.length).length tc) (LT tq.length)) => doc_agr ⟨kd, sz, sl, lt, 4, kk⟩ ⟨n + m, J, LT tq.length, x + u, y + v⟩ w' h f1.1 (by simp only; omega) (by simp only; omega) (by simp only; omega) (by simp only; omega) (by
        simp only; rcases f1.2.2.2.2.2.1 with h | ⟨h, h'⟩
        · exact .inl h
        · rcases f2.2.2.2.2.2.1 with k | ⟨k, k'⟩
          · exact .inl k
          · exact .inr ⟨by omega, by omega⟩) htt (by have := hllh.out tq.length; simp only; omega)
       have eR : (⟨n + m, J, LT tq.length, x + u, y + v⟩ : Ag) = R := by rw [hlah.out]; exact hRdh.out
       obtain ⟨bb, hbb⟩ := zNm (Ag.right ⟨kd, sz, sl, lt, 4, kk⟩ ⟨n + m, J, LT tq.length, x + u, y + v⟩); rw [hbb] at kr; have hRr : Ag.right ⟨kd, sz, sl, lt, 4, kk⟩ R = bb := by rw [← eR]; exact hbb
       have hRrh := zH hRr; have eRh := zH eR; unfold qyV agV qyC agC at kr; simp only [hVX.out, hVY.out] at kr; clear f1 f2 g1 g2 htt hbb hRr eR; have c0 := HL.cell 5 0 rfl rfl; have c1 := HL.cell 5 1 rfl rfl; have c2 := HL.cell 5 2 rfl rfl; have c3 := HL.cell 5 3 rfl rfl; have c4 := HL.cell 5 4 rfl rfl; have c5 := HL.cell 5 5 rfl rfl; have o0 := HL.cell 1 0 rfl rfl; have o1 := HL.cell 1 1 rfl rfl; have o2 := HL.cell 1 2 rfl rfl; have o3 := HL.cell 1 3 rfl rfl
       cases bb with
       | true =>
        go_wp2_with (first
         | (go_at_call 179; go_must (refine (St.callPast (kr _ (hro _ _ HL)) HL).mono ?_; rintro e w8 ⟨rfl, HG⟩; clear c0 c1 c2 c3 c4 c5 o0 o1 o2 o3; have o0 := HG.cell 1 0 rfl rfl; have o1 := HG.cell 1 1 rfl rfl; have o2 := HG.cell 1 2 rfl rfl; have o3 := HG.cell 1 3 rfl rfl))
         | ((with_reducible show Go.wpList _ _ _ (Oper.mk none (Op.store 66 (Operand.tmp 6) _) _ _ _ _ :: _) _ _); go_must (refine St.list_store HG 2 rfl rfl 66 (.tmp 6) (.tmp 77) rfl #[.int .i64 (n + m), .int .i64 J, .slice ta (LT tq.length).length tc, .complex .f64 VX VY] rfl rfl (by kernel_rfl) rfl (by simp [Value.oneCell']) ?_; intro w9 HN hz9; clear hz9)))
        try simp only [Exit.inBlock, Exit.then]
        refine bodyPost_ret (results_agt rfl rfl (blk_ag (cs := [.int .i64 (n + m), .int .i64 J, .slice ta (LT tq.length).length tc, .complex .f64 VX VY]) (HN.blk 2 rfl)) Tryz.underlying66 rfl (by kernel_rfl)) rfl ?_
        unfold DocSum; rw [if_pos hRrh.out, ← eRh.out]; refine ⟨.slice ta (LT tq.length).length tc, ?_, HN.pick [0]⟩; unfold agV agC; simp only [hVX.out, hVY.out]
        first | rfl | trivial
       | false =>
        go_wp2_with (first
         | (go_at_call 179; go_must (refine (St.callPast (kr _ (hro _ _ HL)) HL).mono ?_; rintro e w8 ⟨rfl, HG⟩; clear c0 c1 c2 c3 c4 c5 o0 o1 o2 o3; have o0 := HG.cell 1 0 rfl rfl; have o1 := HG.cell 1 1 rfl rfl; have o2 := HG.cell 1 2 rfl rfl; have o3 := HG.cell 1 3 rfl rfl))
         | ((with_reducible show Go.wpList _ _ _ (Oper.mk none (Op.store 66 (Operand.tmp 6) _) _ _ _ _ :: _) _ _); go_must (refine St.list_store HG 2 rfl rfl 66 (.tmp 6) (.tmp 76) rfl #[.int .i64 0, .int .i64 0, .slice none 0 0, .complex .f64 0 0] rfl rfl (by kernel_rfl) rfl (by simp [Value.oneCell']) ?_; intro w9 HN hz9; clear hz9)))
        try simp only [Exit.inBlock, Exit.then]
        refine bodyPost_ret (results_agt rfl rfl (blk_ag (cs := [.int .i64 0, .int .i64 0, .slice none 0 0, .complex .f64 0 0]) (HN.blk 2 rfl)) Tryz.underlying66 rfl (by kernel_rfl)) rfl ?_
        unfold DocSum; rw [if_neg (by rw [hRrh.out]; simp)]
        exact ⟨rfl, HN.pick []⟩
  · have c4 := HC.cell 5 4 rfl rfl; have x1 := HC.cell 4 1 rfl rfl; have y1 := HC.cell 3 1 rfl rfl; have y2 := HC.cell 3 2 rfl rfl; have o1 := HC.cell 1 1 rfl rfl; have p1 := HC.free 1 1 rfl; have z3 : (ag == 3) = false := by simpa using h3
    have z4 : (ag == 4) = false := by simpa using h4
    obtain rfl : J = a + c := by rw [hJd, if_neg h3, if_neg h4]
    clear hJd; have hJb : (a + c).natAbs ≤ 17592186044416 := by omega
    go_upto_block 1 with (fail)
    have H7 := HC; clear c4 x1 y1 y2 o1 p1 z3 z4 HC
    go_loopw [10, 60] (fun _ j wr => ∃ (i : Nat) (ta : Option Addr) (tc : Nat), i ≤ tq.length ∧ j = .int .i64 i ∧ zS w wr [Row 3 1 (.slice ta (LT i).length tc) (LT i).length (intCells (LT i)), Blk ob #[.int .i64 (n + m), .int .i64 (a + c), .slice ta (LT i).length tc, .complex .f64 VX VY] 66, zhP b3, zdP b2 m c ad2 tq.length cp2 U W, zdP b1 n a ad1 tp.length cp1 X Y, zaP b kd sz sl lt ag kk]) (fun _ j _ => tq.length - (intOf j).toNat)
    case atStart => exact ⟨0, ta, tc, Nat.zero_le _, rfl, by rw [hl0h.out]; exact H7⟩
    case round =>
     clear H7; obtain ⟨i, ta, tc, hi, rfl, HL⟩ := hrel
     by_cases hlt : i < tq.length
     · obtain rfl : ag = 6 := by
        rcases topB_iff.1 (top_right hm2.out) with ⟨h6, -⟩ | ⟨-, e⟩
        · exact h6
        · simp only at e; rw [e] at hlt
          simp at hlt
       have hkk := q_k (Ag.right_iff.1 hm1.out).1 rfl; simp only at hkk; obtain ⟨kn, rfl⟩ : ∃ z : Nat, kk = (z : Int) := ⟨kk.toNat, by omega⟩
       obtain ⟨_, _, eq0, -, hrq, hcq⟩ := hr2h.out; simp only [Value.slice.injEq, true_and] at eq0; obtain ⟨eq1, eq2⟩ := eq0; subst eq1 eq2; obtain ⟨bq, oq, rfl, hbq, hxq⟩ := hcq (by rintro rfl; simp at hlt)
       obtain ⟨z, hz⟩ : ∃ z, tq[i]? = some z := ⟨_, List.getElem?_eq_getElem hlt⟩; have e0 := (World.cell?_of_block (HL.kept.block bq hbq id)).trans (hxq i z hz)
       have hro : IntsRO wr (.slice ta (LT i).length tc) (LT i) := ints_own (HL.row 0 rfl) (fun y hy => by
        obtain ⟨_, _, _, _, hrp, _⟩ := hr1h.out; rcases hlmh.out i y hy with h | h
        · exact hrp y h
        · exact hrq y h)
       have ki := doc_insert z (k := kn) wr (by have := hllh.out i; omega) (by omega) hro
       have hsu := hlsh.out i z hz; simp only [Int.toNat_natCast] at hsu; rw [← hsu] at ki; have hlt2 : (i : Int) < (tq.length : Int) := by omega
       clear hz hxq hcq hro hsu hrq; have c5 := HL.cell 5 5 rfl rfl; have o2 := HL.cell 1 2 rfl rfl; go_upto_region 14 with (go_at_call 233; go_must (refine ki.mono ?_; rintro e w6 ⟨hv6, rfl, G1⟩; obtain ⟨sa, sc, rfl, -, -⟩ := slice_form' (G1.row 0 rfl); have H8 := HL.call0 G1; clear c5 o2; have o2 := H8.cell 2 2 rfl rfl; have p2 := H8.free 2 2 rfl))
       have H9 := H8.set 2 rfl 2 (.slice sa (LT (i + 1)).length sc); go_wp2; go_roundw
       case rel => exact ⟨i + 1, sa, sc, by omega, by go_num, H9.pick [0, 2, 3, 4, 5, 6]⟩
       case measure => first | (simp [intOf]; done) | (simp [intOf]; omega)
     · obtain rfl : i = tq.length := by omega
       have hro : ∀ w' (L' : List SP), zS w w' (Row 3 1 (.slice ta (LT tq.length).length tc) (LT tq.length).length (intCells (LT tq.length)) :: L') → IntsRO w' (.slice ta (LT tq.length).length tc) (LT tq.length) := fun w' L' h => ints_own (h.row 0 rfl) (fun y hy => by
        obtain ⟨_, _, _, _, hrp, _⟩ := hr1h.out; obtain ⟨_, _, _, _, hrq, _⟩ := hr2h.out; rcases hlmh.out tq.length y hy with h | h
        · exact hrp y h
        · exact hrq y h)
       have f1 := Ag.right_iff.1 hm1.out; have f2 := Ag.right_iff.1 hm2.out; have g1 := right_nums hm1.out; have g2 := right_nums hm2.out; simp only at f1 f2 g1 g2; have htt := sum_top hm1.out hm2.out; simp only at htt; rw [← hlah.out] at htt
       have kr := fun w' (h : IntsRO w' (.slice ta (LT tq.length).length tc) (LT tq.length)) => doc_agr ⟨kd, sz, sl, lt, ag, kk⟩ ⟨n + m, (a + c), LT tq.length, x + u, y + v⟩ w' h f1.1 (by simp only; omega) (by simp only; omega) (by simp only; omega) (by simp only; omega) (by
        simp only; rcases f1.2.2.2.2.2.1 with h | ⟨h, h'⟩
        · exact .inl h
        · rcases f2.2.2.2.2.2.1 with k | ⟨k, k'⟩
          · exact .inl k
          · exact .inr ⟨by omega, by omega⟩) htt (by have := hllh.out tq.length; simp only; omega)
       have eR : (⟨n + m, (a + c), LT tq.length, x + u, y + v⟩ : Ag) = R := by rw [hlah.out]; exact hRdh.out
       obtain ⟨bb, hbb⟩ := zNm (Ag.right ⟨kd, sz, sl, lt, ag, kk⟩ ⟨n + m, (a + c), LT tq.length, x + u, y + v⟩); rw [hbb] at kr; have hRr : Ag.right ⟨kd, sz, sl, lt, ag, kk⟩ R = bb := by rw [← eR]; exact hbb
       have hRrh := zH hRr; have eRh := zH eR; unfold qyV agV qyC agC at kr; simp only [hVX.out, hVY.out] at kr; clear f1 f2 g1 g2 htt hbb hRr eR; have c0 := HL.cell 5 0 rfl rfl; have c1 := HL.cell 5 1 rfl rfl; have c2 := HL.cell 5 2 rfl rfl; have c3 := HL.cell 5 3 rfl rfl; have c4 := HL.cell 5 4 rfl rfl; have c5 := HL.cell 5 5 rfl rfl; have o0 := HL.cell 1 0 rfl rfl; have o1 := HL.cell 1 1 rfl rfl; have o2 := HL.cell 1 2 rfl rfl; have o3 := HL.cell 1 3 rfl rfl
       cases bb with
       | true =>
        go_wp2_with (first
         | (go_at_call 179; go_must (refine (St.callPast (kr _ (hro _ _ HL)) HL).mono ?_; rintro e w8 ⟨rfl, HG⟩; clear c0 c1 c2 c3 c4 c5 o0 o1 o2 o3; have o0 := HG.cell 1 0 rfl rfl; have o1 := HG.cell 1 1 rfl rfl; have o2 := HG.cell 1 2 rfl rfl; have o3 := HG.cell 1 3 rfl rfl))
         | ((with_reducible show Go.wpList _ _ _ (Oper.mk none (Op.store 66 (Operand.tmp 6) _) _ _ _ _ :: _) _ _); go_must (refine St.list_store HG 2 rfl rfl 66 (.tmp 6) (.tmp 77) rfl #[.int .i64 (n + m), .int .i64 (a + c), .slice ta (LT tq.length).length tc, .complex .f64 VX VY] rfl rfl (by kernel_rfl) rfl (by simp [Value.oneCell']) ?_; intro w9 HN hz9; clear hz9)))
        try simp only [Exit.inBlock, Exit.then]
        refine bodyPost_ret (results_agt rfl rfl (blk_ag (cs := [.int .i64 (n + m), .int .i64 (a + c), .slice ta (LT tq.length).length tc, .complex .f64 VX VY]) (HN.blk 2 rfl)) Tryz.underlying66 rfl (by kernel_rfl)) rfl ?_
        unfold DocSum; rw [if_pos hRrh.out, ← eRh.out]; refine ⟨.slice ta (LT tq.length).length tc, ?_, HN.pick [0]⟩; unfold agV agC; simp only [hVX.out, hVY.out]
        first | rfl | trivial
       | false =>
        go_wp2_with (first
         | (go_at_call 179; go_must (refine (St.callPast (kr _ (hro _ _ HL)) HL).mono ?_; rintro e w8 ⟨rfl, HG⟩; clear c0 c1 c2 c3 c4 c5 o0 o1 o2 o3; have o0 := HG.cell 1 0 rfl rfl; have o1 := HG.cell 1 1 rfl rfl; have o2 := HG.cell 1 2 rfl rfl; have o3 := HG.cell 1 3 rfl rfl))
         | ((with_reducible show Go.wpList _ _ _ (Oper.mk none (Op.store 66 (Operand.tmp 6) _) _ _ _ _ :: _) _ _); go_must (refine St.list_store HG 2 rfl rfl 66 (.tmp 6) (.tmp 76) rfl #[.int .i64 0, .int .i64 0, .slice none 0 0, .complex .f64 0 0] rfl rfl (by kernel_rfl) rfl (by simp [Value.oneCell']) ?_; intro w9 HN hz9; clear hz9)))
        try simp only [Exit.inBlock, Exit.then]
        refine bodyPost_ret (results_agt rfl rfl (blk_ag (cs := [.int .i64 0, .int .i64 0, .slice none 0 0, .complex .f64 0 0]) (HN.blk 2 rfl)) Tryz.underlying66 rfl (by kernel_rfl)) rfl ?_
        unfold DocSum; rw [if_neg (by rw [hRrh.out]; simp)]
        exact ⟨rfl, HN.pick []⟩
end Go.Proofs.YtiglgfonhdfpmaaGreat
namespace Go.Proofs.YtiglgfonhdfpmaaGreat
open Go.RowKit
theorem doc_merge_l (q : Qry) (g1 g2 : Ag) {h1 h2 : Value} (w : World) (hr1 : IntsRO w h1 g1.top) (hr2 : IntsRO w h2 g2.top) (hn1 : g1.n = 0) :
    Calls Tryz.prog 187 #[qyV q, agV g1 h1, agV g2 h2] w fun e w' => e = .returned (.tuple #[agV g2 h2, .bool true]) ∧ zS w w' [] := by
 obtain ⟨ad1, cp1, rfl, -, -, -⟩ := hr1; obtain ⟨ad2, cp2, rfl, -, -, -⟩ := hr2; obtain ⟨kd, sz, sl, lt, ag, kk⟩ := q; obtain ⟨n, a, tp, x, y⟩ := g1; obtain ⟨m, c, tq, u, v⟩ := g2; simp only at hn1; subst hn1; unfold qyV agV qyC agC; simp only; obtain ⟨X, hX⟩ := zNm (ib x); obtain ⟨Y, hY⟩ := zNm (ib y); obtain ⟨U, hU⟩ := zNm (ib u); obtain ⟨W, hW⟩ := zNm (ib v); simp only [hX, hY, hU, hW]; clear hX hY hU hW; obtain ⟨b, hb⟩ := zNm w.heap.size; obtain ⟨b1, hb1⟩ := zNm (b + 1); obtain ⟨b2, hb2⟩ := zNm (b1 + 1); obtain ⟨b3, hb3⟩ := zNm (b2 + 1); have sz1 : ∀ (w : World) (o : Obj), (w.alloc o).heap.size = w.heap.size + 1 := fun w o => Array.size_push _
 have H0 : zS w _ [_] := (St.nil _ w).allocAt hb #[.int .i64 kd, .int .i64 sz, .int .i64 sl, .int .i64 lt, .int .i64 ag, .int .i64 kk] 23; have s1 : (w.alloc (.cells #[.int .i64 kd, .int .i64 sz, .int .i64 sl, .int .i64 lt, .int .i64 ag, .int .i64 kk] 23)).heap.size = b1 := by rw [sz1, hb, hb1]
 have H1 := H0.allocAt (B := b1) s1 #[.int .i64 0, .int .i64 a, .slice ad1 tp.length cp1, .complex .f64 X Y] 66; have s2 : ((w.alloc (.cells #[.int .i64 kd, .int .i64 sz, .int .i64 sl, .int .i64 lt, .int .i64 ag, .int .i64 kk] 23)).alloc (.cells #[.int .i64 0, .int .i64 a, .slice ad1 tp.length cp1, .complex .f64 X Y] 66)).heap.size = b2 := by rw [sz1, s1, hb2]
 have H2 := H1.allocAt (B := b2) s2 #[.int .i64 m, .int .i64 c, .slice ad2 tq.length cp2, .complex .f64 U W] 66; have s3 : (((w.alloc (.cells #[.int .i64 kd, .int .i64 sz, .int .i64 sl, .int .i64 lt, .int .i64 ag, .int .i64 kk] 23)).alloc (.cells #[.int .i64 0, .int .i64 a, .slice ad1 tp.length cp1, .complex .f64 X Y] 66)).alloc (.cells #[.int .i64 m, .int .i64 c, .slice ad2 tq.length cp2, .complex .f64 U W] 66)).heap.size = b3 := by rw [sz1, s2, hb3]
 have H3 := H2.allocAt (B := b3) s3 #[.int .i64 0, .int .i64 0, .slice none 0 0, .complex .f64 0 0] 66; obtain ⟨w1, hw1⟩ := zNm (((((w.alloc (.cells #[.int .i64 kd, .int .i64 sz, .int .i64 sl, .int .i64 lt, .int .i64 ag, .int .i64 kk] 23)).alloc (.cells #[.int .i64 0, .int .i64 a, .slice ad1 tp.length cp1, .complex .f64 X Y] 66)).alloc (.cells #[.int .i64 m, .int .i64 c, .slice ad2 tq.length cp2, .complex .f64 U W] 66)).alloc (.cells #[.int .i64 0, .int .i64 0, .slice none 0 0, .complex .f64 0 0] 66))); rw [hw1] at H3
 go_enter Tryz.func187, Tryz.ntmps187
 go_upto_region 1 with (fail)
 (try simp only [hb, hb1, hb2, hb3]); (try rw [hw1]); have hbh := zH hb; clear hw1 s1 s2 s3 sz1 H0 H1 H2 hb hb1 hb2 hb3; have i0 := H3.cell 1 0 rfl rfl; have d0 := H3.cell 2 0 rfl rfl; have i1 := H3.cell 1 1 rfl rfl; have d1 := H3.cell 2 1 rfl rfl; have i2 := H3.cell 1 2 rfl rfl; have d2 := H3.cell 2 2 rfl rfl; have i3 := H3.cell 1 3 rfl rfl; have d3 := H3.cell 2 3 rfl rfl
 go_wp2_with ((with_reducible show Go.wpList _ _ _ (Oper.mk none (Op.store 66 (Operand.tmp 6) _) _ _ _ _ :: _) _ _); go_must (refine St.list_store H3 0 rfl rfl 66 (.tmp 6) (.tmp 14) rfl #[.int .i64 m, .int .i64 c, .slice ad2 tq.length cp2, .complex .f64 U W] rfl rfl (by kernel_rfl) rfl (by simp [Value.oneCell']) ?_; intro w9 HN hz9; clear hz9))
 try simp only [Exit.inBlock, Exit.then]
 refine bodyPost_ret (results_agt rfl rfl (blk_ag (cs := [.int .i64 m, .int .i64 c, .slice ad2 tq.length cp2, .complex .f64 U W]) (HN.blk 0 rfl)) Tryz.underlying66 rfl (by kernel_rfl)) rfl ?_
 exact ⟨rfl, HN.pick []⟩
theorem doc_merge_r (q : Qry) (g1 g2 : Ag) {h1 h2 : Value} (w : World) (hr1 : IntsRO w h1 g1.top) (hr2 : IntsRO w h2 g2.top) (hn1 : g1.n ≠ 0) (hn2 : g2.n = 0) :
    Calls Tryz.prog 187 #[qyV q, agV g1 h1, agV g2 h2] w fun e w' => e = .returned (.tuple #[agV g1 h1, .bool true]) ∧ zS w w' [] := by
 obtain ⟨ad1, cp1, rfl, -, -, -⟩ := hr1; obtain ⟨ad2, cp2, rfl, -, -, -⟩ := hr2; obtain ⟨kd, sz, sl, lt, ag, kk⟩ := q; obtain ⟨n, a, tp, x, y⟩ := g1; obtain ⟨m, c, tq, u, v⟩ := g2; simp only at hn1 hn2; subst hn2; unfold qyV agV qyC agC; simp only; obtain ⟨X, hX⟩ := zNm (ib x); obtain ⟨Y, hY⟩ := zNm (ib y); obtain ⟨U, hU⟩ := zNm (ib u); obtain ⟨W, hW⟩ := zNm (ib v); simp only [hX, hY, hU, hW]; clear hX hY hU hW; have zn : (n == 0) = false := by simpa using hn1
 obtain ⟨b, hb⟩ := zNm w.heap.size; obtain ⟨b1, hb1⟩ := zNm (b + 1); obtain ⟨b2, hb2⟩ := zNm (b1 + 1); obtain ⟨b3, hb3⟩ := zNm (b2 + 1); have sz1 : ∀ (w : World) (o : Obj), (w.alloc o).heap.size = w.heap.size + 1 := fun w o => Array.size_push _
 have H0 : zS w _ [_] := (St.nil _ w).allocAt hb #[.int .i64 kd, .int .i64 sz, .int .i64 sl, .int .i64 lt, .int .i64 ag, .int .i64 kk] 23; have s1 : (w.alloc (.cells #[.int .i64 kd, .int .i64 sz, .int .i64 sl, .int .i64 lt, .int .i64 ag, .int .i64 kk] 23)).heap.size = b1 := by rw [sz1, hb, hb1]
 have H1 := H0.allocAt (B := b1) s1 #[.int .i64 n, .int .i64 a, .slice ad1 tp.length cp1, .complex .f64 X Y] 66; have s2 : ((w.alloc (.cells #[.int .i64 kd, .int .i64 sz, .int .i64 sl, .int .i64 lt, .int .i64 ag, .int .i64 kk] 23)).alloc (.cells #[.int .i64 n, .int .i64 a, .slice ad1 tp.length cp1, .complex .f64 X Y] 66)).heap.size = b2 := by rw [sz1, s1, hb2]
 have H2 := H1.allocAt (B := b2) s2 #[.int .i64 0, .int .i64 c, .slice ad2 tq.length cp2, .complex .f64 U W] 66; have s3 : (((w.alloc (.cells #[.int .i64 kd, .int .i64 sz, .int .i64 sl, .int .i64 lt, .int .i64 ag, .int .i64 kk] 23)).alloc (.cells #[.int .i64 n, .int .i64 a, .slice ad1 tp.length cp1, .complex .f64 X Y] 66)).alloc (.cells #[.int .i64 0, .int .i64 c, .slice ad2 tq.length cp2, .complex .f64 U W] 66)).heap.size = b3 := by rw [sz1, s2, hb3]
 have H3 := H2.allocAt (B := b3) s3 #[.int .i64 0, .int .i64 0, .slice none 0 0, .complex .f64 0 0] 66; obtain ⟨w1, hw1⟩ := zNm (((((w.alloc (.cells #[.int .i64 kd, .int .i64 sz, .int .i64 sl, .int .i64 lt, .int .i64 ag, .int .i64 kk] 23)).alloc (.cells #[.int .i64 n, .int .i64 a, .slice ad1 tp.length cp1, .complex .f64 X Y] 66)).alloc (.cells #[.int .i64 0, .int .i64 c, .slice ad2 tq.length cp2, .complex .f64 U W] 66)).alloc (.cells #[.int .i64 0, .int .i64 0, .slice none 0 0, .complex .f64 0 0] 66))); rw [hw1] at H3
 go_enter Tryz.func187, Tryz.ntmps187
 go_upto_region 1 with (fail)
 (try simp only [hb, hb1, hb2, hb3]); (try rw [hw1]); have hbh := zH hb; clear hw1 s1 s2 s3 sz1 H0 H1 H2 hb hb1 hb2 hb3; have i0 := H3.cell 1 0 rfl rfl; have d0 := H3.cell 2 0 rfl rfl; have i1 := H3.cell 1 1 rfl rfl; have d1 := H3.cell 2 1 rfl rfl; have i2 := H3.cell 1 2 rfl rfl; have d2 := H3.cell 2 2 rfl rfl; have i3 := H3.cell 1 3 rfl rfl; have d3 := H3.cell 2 3 rfl rfl
 go_wp2_with ((with_reducible show Go.wpList _ _ _ (Oper.mk none (Op.store 66 (Operand.tmp 6) _) _ _ _ _ :: _) _ _); go_must (refine St.list_store H3 0 rfl rfl 66 (.tmp 6) (.tmp 18) rfl #[.int .i64 n, .int .i64 a, .slice ad1 tp.length cp1, .complex .f64 X Y] rfl rfl (by kernel_rfl) rfl (by simp [Value.oneCell']) ?_; intro w9 HN hz9; clear hz9))
 try simp only [Exit.inBlock, Exit.then]
 refine bodyPost_ret (results_agt rfl rfl (blk_ag (cs := [.int .i64 n, .int .i64 a, .slice ad1 tp.length cp1, .complex .f64 X Y]) (HN.blk 0 rfl)) Tryz.underlying66 rfl (by kernel_rfl)) rfl ?_
 exact ⟨rfl, HN.pick []⟩
end Go.Proofs.YtiglgfonhdfpmaaGreat
namespace Go.Proofs.YtiglgfonhdfpmaaGreat
open Go.RowKit
def RowO (t : TypeId) (v0 : Value) (ms0 : List Pm) (v : Value) (ms : List Pm) : SP where
 on w S := (Row t 8 v ms.length (encP.all ms)).on w S ∨ (v = v0 ∧ ms = ms0 ∧ ∀ k, ¬ S k)
 loc w w' S h hs := h.elim (fun h => .inl ((Row t 8 v ms.length (encP.all ms)).loc w w' S h hs)) .inr
 lt w S k h hk := h.elim (fun h => (Row t 8 v ms.length (encP.all ms)).lt w S k h hk) (fun h => absurd hk (h.2.2 k))
section
variable {S : Nat → Prop} {w0 w w' : World} {l : List SP}
theorem St.row_same (h : St S w0 w l) (t : TypeId) (v : Value) (ms : List Pm) : St S w0 w (RowO t v ms v ms :: l) :=
 ⟨h.kept, fun _ => False, .inr ⟨rfl, rfl, fun _ h => h⟩, fun _ h => h.elim, h.sep.mono (fun _ _ h => ⟨h, id⟩)⟩
theorem St.row_new {t : TypeId} {v : Value} {ms : List Pm} (h : St S w0 w (Row t 8 v ms.length (encP.all ms) :: l)) (v0 : Value) (ms0 : List Pm) : St S w0 w (RowO t v0 ms0 v ms :: l) := by
 refine ⟨h.kept, ?_⟩; obtain ⟨S1, h1, h2, h3⟩ := h.sep; exact ⟨S1, .inl h1, h2, h3⟩
theorem St.rowO_ro {t : TypeId} {v0 v : Value} {ms0 ms : List Pm} (h : zS w0 w l) (i : Nat) (hi : l[i]? = some (RowO t v0 ms0 v ms)) (hr : encP.RO w0 v0 ms0) : encP.RO w v ms := by
 obtain ⟨S1, h1⟩ := Sep.get i hi h.sep; rcases h1 with h1 | ⟨rfl, rfl, -⟩
 · exact Enc.own encP h1.1 rfl
 · exact hr.later h.kept
theorem St.row_or {t : TypeId} {v0 v : Value} {ms0 ms : List Pm} (h : St S w0 w (RowO t v0 ms0 v ms :: Row t 8 v0 ms0.length (encP.all ms0) :: l)) : St S w0 w (Row t 8 v ms.length (encP.all ms) :: l) := by
 refine ⟨h.kept, ?_⟩; obtain ⟨S1, h1, h2, S2, h3, h4, h5⟩ := h.sep; rcases h1 with h1 | ⟨rfl, rfl, h1⟩
 · exact ⟨S1, h1, h2, h5.mono (fun k _ h => h.1)⟩
 · exact ⟨S2, h3, fun k hk => (h4 k hk).1, h5.mono (fun k _ h => ⟨h.1.1, h.2⟩)⟩
theorem St.pool_or {H G : List (Value × List Int)} (h : zS w0 w l) (i : Nat) (hi : l[i]? = some (Pool H)) (hG : ∀ x ∈ G, IntsRO w0 x.1 x.2) {x : Value × List Int} (hx : x ∈ H ++ G) : IntsRO w x.1 x.2 := by
 rcases List.mem_append.1 hx with hx | hx
 · exact h.pool_get i hi hx
 · exact (hG x hx).later h.kept
theorem St.to_pool {t : TypeId} {v : Value} {n : Nat} {xs : List Int} (h : St S w0 w [Row t 1 v n (intCells xs)]) (hr : IntsRO w v xs) : St S w0 w [Pool [(v, xs)]] :=
 St.pool_add (l := []) (h.pool_nil.pick [1, 0]) hr
end
def MrgOk (q : Qry) (g1 : Ag) (h1 : Value) (g2 : Ag) (h2 : Value) (w : World) (r : Option Ag) (e : Ending) (w' : World) : Prop :=
 match r with
 | none => e = .returned (.tuple #[.agg #[.int .i64 0, .int .i64 0, .slice none 0 0, .complex .f64 0 0], .bool false]) ∧ zS w w' []
 | some g => ∃ h H, e = .returned (.tuple #[agV g h, .bool true]) ∧ (h, g.top) ∈ H ++ [(h1, g1.top), (h2, g2.top)] ∧ zS w w' [Pool H]
theorem top_lim {q : Qry} {g : Ag} (h : g.right q = true) : ∀ x ∈ g.top, -9223372036854775808 ≤ x ∧ x ≤ 9223372036854775807 := by
 intro x hx; rcases topB_iff.1 (top_right h) with ⟨-, -, -, h4⟩ | ⟨-, e⟩
 · have := valB_iff.1 (h4 x hx)
   omega
 · rw [e] at hx; cases hx
theorem doc_merge (q : Qry) (g1 g2 : Ag) {h1 h2 : Value} (w : World) (hr1 : IntsRO w h1 g1.top) (hr2 : IntsRO w h2 g2.top) (hg1 : g1.right q = true) (hg2 : g2.right q = true) :
    Calls Tryz.prog 187 #[qyV q, agV g1 h1, agV g2 h2] w fun e w' => MrgOk q g1 h1 g2 h2 w (mergeM q g1 g2) e w' := by
 by_cases hn1 : g1.n = 0
 · have hm : mergeM q g1 g2 = some g2 := by unfold mergeM; rw [if_pos hn1]
   rw [hm]; refine (doc_merge_l q g1 g2 w hr1 hr2 hn1).mono ?_; rintro e w' ⟨rfl, H⟩; exact ⟨h2, [], rfl, by simp, H.pool_nil⟩
 · by_cases hn2 : g2.n = 0
   · have hm : mergeM q g1 g2 = some g1 := by unfold mergeM; rw [if_neg hn1, if_pos hn2]
     rw [hm]; refine (doc_merge_r q g1 g2 w hr1 hr2 hn1 hn2).mono ?_; rintro e w' ⟨rfl, H⟩; exact ⟨h1, [], rfl, by simp, H.pool_nil⟩
   · have hm : mergeM q g1 g2 = if (sumM q g1 g2).right q = true then some (sumM q g1 g2) else none := by unfold mergeM; rw [if_neg hn1, if_neg hn2]
     rw [hm]; refine (doc_sum q g1 g2 w hr1 hr2 hg1 hg2 hn1 hn2).mono ?_; intro e w' h; unfold DocSum at h
     by_cases hs : (sumM q g1 g2).right q = true
     · rw [if_pos hs] at h ⊢; obtain ⟨v, rfl, H⟩ := h; exact ⟨v, [(v, (sumM q g1 g2).top)], rfl, by simp, H.to_pool (ints_own (H.row 0 rfl) (top_lim hs))⟩
     · rw [if_neg hs] at h ⊢; exact h
theorem insQ_len (p : Pm) : ∀ l : List Pm, (insQ p l).length = l.length + 1
 | [] => rfl
 | x :: r => by
  unfold insQ
  split
  · simp
  · simp [insQ_len p r]
theorem insQ_mem {p y : Pm} : ∀ {l : List Pm}, y ∈ insQ p l → y = p ∨ y ∈ l
 | [], h => .inl (List.mem_singleton.1 h)
 | x :: r, h => by
  unfold insQ at h
  split at h
  · exact List.mem_cons.1 h
  · rcases List.mem_cons.1 h with h | h
    · exact .inr (by rw [h]; exact List.mem_cons_self)
    · exact (insQ_mem h).imp id (fun h => List.mem_cons_of_mem _ h)
theorem gath_congr {q : Qry} {x : Wd} {f g : Wd → Bool} : ∀ {l : List Pn} {s : Ag × Int}, (∀ p ∈ l, f p.w = g p.w) → gathM q x f l s = gathM q x g l s
 | [], _, _ => rfl
 | p :: r, s, h => by
  have ih := fun s => gath_congr (q := q) (x := x) (l := r) (s := s) (fun y hy => h y (List.mem_cons_of_mem _ hy))
  rw [gath_cons, gath_cons, h p List.mem_cons_self, ih]
  split
  · split
    · rfl
    · exact ih _
  · rfl
def wsP (L : List Pm) : List Wd := L.map (·.p.w)
theorem wsP_map (L : List Pm) : wsP L = (L.map (·.p)).map (·.w) := by simp [wsP]
theorem doc_old_mem {q : Qry} {W : List Wd} {own : Wd} : ∀ y ∈ docOld q W own, y ∈ W ∨ y = own := by
 intro y hy; unfold docOld at hy
 split at hy
 · unfold gaveW at hy; obtain ⟨i, hi, e⟩ := List.mem_map.1 hy; have hr := takeF_gave W own i hi; have hlt : i.toNat < W.length := by omega
   rw [List.getElem?_eq_getElem hlt, Option.getD_some] at e; rw [← e]; exact .inl (List.getElem_mem hlt)
 · split at hy
   · exact .inr (List.mem_singleton.1 hy)
   · cases hy
theorem doc_old_len {q : Qry} {W : List Wd} {own : Wd} : (docOld q W own).length ≤ W.length + 1 := by
 unfold docOld
 split
 · have := takeF_len W own; unfold gaveW; rw [List.length_map]
   omega
 · split <;> simp
theorem doc_gath {q : Qry} {own : Wd} {L : List Pm} {x : Wd} {s : Ag × Int} : gathM q x (fun y => (docOld q (wsP L) own).contains y) (L.map (·.p)) s = gathM q x (oldM q own) (L.map (·.p)) s :=
 gath_congr fun p hp => doc_old (by rw [wsP_map]; exact List.mem_map_of_mem hp)
theorem doc_filter {q : Qry} {own : Wd} {L : List Pm} : (L.filter fun y => !(docOld q (wsP L) own).contains y.p.w).map (·.p) = (L.map (·.p)).filter fun p => !oldM q own p.w := by
 rw [List.filter_map]
 congr 1
 refine List.filter_congr fun y hy => ?_
 simp only [Function.comp]; rw [doc_old (l := wsP L) (List.mem_map_of_mem (f := fun m : Pm => m.p.w) hy)]
theorem doc_ins {q : Qry} {own : Wd} {L : List Pm} {m : Pm} (hown : own.right = true) (hm : m.p.w = becM q (L.map (·.p)) own) :
    (insQ m (L.filter fun y => !(docOld q (wsP L) own).contains y.p.w)).map (·.p) = withP ((L.map (·.p)).filter fun p => !oldM q own p.w) m.p := by
 rw [insQ_with, doc_filter]; intro y hy; obtain ⟨h1, h2⟩ := List.mem_filter.1 hy; have hw : y.p.w ∈ wsP L := List.mem_map_of_mem (f := fun m : Pm => m.p.w) h1
 rw [doc_old hw] at h2; rw [hm]; unfold oldM at h2; unfold becM
 by_cases h3 : q.kind = 3
 · rw [if_pos h3] at h2 ⊢; refine fun e => bec_apart hown y.p.w ?_ e.symm
   unfold outOf; refine List.mem_filter.2 ⟨by rw [← wsP_map]; exact hw, h2⟩
 · rw [if_neg h3] at h2 ⊢
   simpa using h2
end Go.Proofs.YtiglgfonhdfpmaaGreat
namespace Go.Proofs.YtiglgfonhdfpmaaGreat
open Go.RowKit
theorem doc_valp (q : Qry) (g : Ag) {hv : Value} (w : World) (hr : IntsRO w hv g.top) (hg : g.right q = true) :
    Calls Tryz.prog 188 #[qyV q, agV g hv] w fun e w' => ∃ v' H, e = .returned v' ∧ (v', valueM q g) ∈ H ++ [(hv, g.top)] ∧ zS w w' [Pool H] := by
 obtain ⟨⟨a1, a7⟩, ⟨n0, nm⟩, ha, htl, px, py, hx, hy⟩ := right_nums hg; have kx := ib_int (x := g.x) (by omega)
 have ky := ib_int (x := g.y) (by omega)
 have hfl : ¬ g.n = 0 → ∃ Q, g.a.tdiv g.n = Q ∧ IntKind.i64.wrap Q = Q ∧ IntKind.i64.wrap (Q * g.n) = Q * g.n ∧ IntKind.i64.wrap (Q - 1) = Q - 1 ∧ floorM g.a g.n = if g.a < Q * g.n then Q - 1 else Q := fun h => by
  have hn : 0 < g.n := by omega
  have ht : g.a = g.n * g.a.tdiv g.n + g.a.tmod g.n := (Int.mul_tdiv_add_tmod _ _).symm; have hlt := Int.tmod_lt_of_pos g.a hn; have hgt : -g.n < g.a.tmod g.n := by have := Int.lt_tmod_of_pos g.a hn; omega
  have hq : (g.a.tdiv g.n).natAbs ≤ 4398046511104 := by
   rw [Int.natAbs_tdiv]; exact Nat.le_trans (Nat.div_le_self _ _) ha
  have hm : g.a.tdiv g.n * g.n = g.n * g.a.tdiv g.n := Int.mul_comm _ _; refine ⟨_, rfl, by rw [IntKind.wrap_i64]; omega, by rw [IntKind.wrap_i64]; omega, by rw [IntKind.wrap_i64]; omega, ?_⟩
  unfold floorM
  split
  · rw [Int.ediv_eq_iff_of_pos hn, Int.sub_mul, Int.one_mul]
    omega
  · rw [Int.ediv_eq_iff_of_pos hn]
    omega
 have hr0 := hr; obtain ⟨ad, cap, rfl, -⟩ := hr
 have hf0 : valueM q g = if g.n = 0 then [] else if q.agg = 1 then [g.n] else if q.agg = 5 then [floorM g.a g.n] else if q.agg = 6 then g.top else if q.agg = 7 then [g.x, g.y] else [g.a] := rfl
 obtain ⟨F, hF⟩ := zNm (floorM g.a g.n); rw [hF] at hf0; simp only [hF] at hfl; have hab := ha; clear hF hg px py ha htl; obtain ⟨V, hV⟩ := zNm (valueM q g); rw [hV] at hf0 ⊢; clear hV; obtain ⟨kd, sz, sl, lt, ag, kk⟩ := q; obtain ⟨n, a, tp, x, y⟩ := g; simp only at *; unfold qyV agV qyC agC at *; simp only at *; obtain ⟨X, hX⟩ := zNm (ib x); obtain ⟨Y, hY⟩ := zNm (ib y); simp only [hX, hY] at kx ky ⊢; clear hX hY; obtain ⟨b, hb⟩ := zNm w.heap.size; obtain ⟨b2, hb2⟩ := zNm (b + 1); have H0 : zS w _ [_] := (St.nil _ w).allocAt hb #[.int .i64 kd, .int .i64 sz, .int .i64 sl, .int .i64 lt, .int .i64 ag, .int .i64 kk] 23; have H := H0.allocAt (B := b2) (by rw [← hb2, ← hb]; exact Array.size_push _) #[.int .i64 n, .int .i64 a, .slice ad tp.length cap, .complex .f64 X Y] 66
 obtain ⟨w1, hw1⟩ := zNm ((w.alloc (.cells #[.int .i64 kd, .int .i64 sz, .int .i64 sl, .int .i64 lt, .int .i64 ag, .int .i64 kk] 23)).alloc (.cells #[.int .i64 n, .int .i64 a, .slice ad tp.length cap, .complex .f64 X Y] 66)); rw [hw1] at H
 go_enter Tryz.func188, Tryz.ntmps188
 go_upto_region 1 with (fail)
 (try simp only [hb, hb2]); (try rw [hw1]); clear hw1 hb hb2 H0; have c0 := H.cell 1 0 rfl rfl; have c1 := H.cell 1 1 rfl rfl; have c2 := H.cell 1 2 rfl rfl; have c3 := H.cell 1 3 rfl rfl; have c4 := H.cell 1 4 rfl rfl; have c5 := H.cell 1 5 rfl rfl; have d0 := H.cell 0 0 rfl rfl; have d1 := H.cell 0 1 rfl rfl; have d2 := H.cell 0 2 rfl rfl; have d3 := H.cell 0 3 rfl rfl
 by_cases hn : n = 0
 · have y0 : (n == 0) = true := by simpa using hn
   have hf := zH (show V = [] by rw [hf0, if_pos hn])
   clear hf0 hn hfl; go_wp2; go_ret; rw [hf.out]; exact ⟨.slice none 0 0, [(.slice none 0 0, [])], rfl, by simp, (H.pick []).pool_nil.pool_zero 0 rfl⟩
 have y0 : (n == 0) = false := by simpa using hn
 rw [if_neg hn] at hf0; obtain ⟨Q, hQ, q1, q2, q3, q4⟩ := hfl hn; clear hfl; go_upto_region 3 with (fail)
 obtain ⟨b4, hb4⟩ := zNm w1.heap.size
 have hone : ∀ (z : Int), (-9223372036854775808 ≤ z ∧ z ≤ 9223372036854775807) → ∃ v', Value.slice (some ⟨b4, 0, none⟩) 1 1 = v' ∧ zS w (w1.alloc (.cells #[.int .i64 z] 3)) [Pool [(v', [z])]] := fun z hz =>
  have h := ((H.allocAt hb4 #[.int .i64 z] 3).blk_row 0 (e := 3) (size := 1) (cap := 1) (n := 1) (cs := [.int .i64 z]) (xs := intCells [z]) rfl (Nat.le_refl _) (by decide) rfl rfl)
  ⟨_, rfl, (h.pick [0]).to_pool (ints_own (h.row 0 rfl) (by simpa using hz))⟩
 have htwo : ∀ (z z2 : Int), (-9223372036854775808 ≤ z ∧ z ≤ 9223372036854775807) → (-9223372036854775808 ≤ z2 ∧ z2 ≤ 9223372036854775807) → ∃ v', Value.slice (some ⟨b4, 0, none⟩) 2 2 = v' ∧ zS w (w1.alloc (.cells #[.int .i64 z, .int .i64 z2] 3)) [Pool [(v', [z, z2])]] := fun z z2 hz hz2 =>
  have h := ((H.allocAt hb4 #[.int .i64 z, .int .i64 z2] 3).blk_row 0 (e := 3) (size := 1) (cap := 2) (n := 2) (cs := [.int .i64 z, .int .i64 z2]) (xs := intCells [z, z2]) rfl (Nat.le_refl _) (by decide) rfl rfl)
  ⟨_, rfl, (h.pick [0]).to_pool (ints_own (h.row 0 rfl) (by intro u hu; simp only [List.mem_cons, List.not_mem_nil, or_false] at hu; rcases hu with rfl | rfl <;> assumption))⟩
 have hone := zH hone; have htwo := zH htwo; have hk : ag = 1 ∨ ag = 5 ∨ ag = 6 ∨ ag = 7 ∨ ag = 2 ∨ ag = 3 ∨ ag = 4 := by omega
 clear a1 a7; rcases hk with rfl | rfl | rfl | rfl | rfl | rfl | rfl
 case inl =>
  have hf := zH (show V = [n] by rw [hf0]; simp)
  clear hf0; go_wp2; go_ret; rw [hf.out]; obtain ⟨v', e, h⟩ := hone.out n (by omega)
  exact ⟨v', _, by rw [← e]; rfl, by simp, h⟩
 case inr.inl =>
  have hf := zH (show V = [F] by rw [hf0]; simp)
  clear hf0
  by_cases hc : a < Q * n
  · have z1 : decide (a < Q * n) = true := by simpa using hc
    rw [if_pos hc] at q4; have hFb : -9223372036854775808 ≤ F ∧ F ≤ 9223372036854775807 := by rw [q4, ← q3, IntKind.wrap_i64]; omega
    have q4 := zH q4; clear hc; go_wp2; go_ret; rw [hf.out]; obtain ⟨v', e, h⟩ := hone.out F hFb; rw [q4.out] at h ⊢; exact ⟨v', _, by rw [← e]; rfl, by simp, h⟩
  · have z1 : decide (a < Q * n) = false := by simpa using hc
    rw [if_neg hc] at q4; have hFb : -9223372036854775808 ≤ F ∧ F ≤ 9223372036854775807 := by rw [q4, ← q1, IntKind.wrap_i64]; omega
    have q4 := zH q4; clear hc; go_wp2; go_ret; rw [hf.out]; obtain ⟨v', e, h⟩ := hone.out F hFb; rw [q4.out] at h ⊢; exact ⟨v', _, by rw [← e]; rfl, by simp, h⟩
 case inr.inr.inl =>
  have hf := zH (show V = tp by rw [hf0]; simp)
  clear hf0; go_wp2; go_ret; rw [hf.out]; exact ⟨_, [], rfl, by simp, (H.pick []).pool_nil⟩
 case inr.inr.inr.inl =>
  have hf := zH (show V = [x, y] by rw [hf0]; simp)
  clear hf0; go_wp2; go_ret; rw [hf.out]; obtain ⟨v', e, h⟩ := htwo.out x y (by omega) (by omega)
  exact ⟨v', _, by rw [← e]; rfl, by simp, h⟩
 all_goals
  have hf := zH (show V = [a] by rw [hf0]; simp)
  clear hf0; go_wp2; go_ret; rw [hf.out]; obtain ⟨v', e, h⟩ := hone.out a (by omega)
  exact ⟨v', _, by rw [← e]; rfl, by simp, h⟩
end Go.Proofs.YtiglgfonhdfpmaaGreat
namespace Go.Proofs.YtiglgfonhdfpmaaGreat
def ofW (q : Qry) (key : List UInt8) (step : Int) (k : Nat) : Wd := ⟨key, (k : Int) * step, (k : Int) * step + q.size⟩
def ofTo (q : Qry) (key : List UInt8) (t step : Int) (n : Nat) : List Wd := ((List.range n).filter fun (k : Nat) => decide (t < (k : Int) * step + q.size)).map (ofW q key step)
theorem slide_of (q : Qry) (key : List UInt8) (t : Int) : slideWs q key t = ofTo q key t q.slide ((t / q.slide).toNat + 1) := rfl
theorem ofTo_succ (q : Qry) (key : List UInt8) (t step : Int) (n : Nat) : ofTo q key t step (n + 1) = ofTo q key t step n ++ (if t < (n : Int) * step + q.size then [ofW q key step n] else []) := by
 unfold ofTo; rw [List.range_succ, List.filter_append, List.map_append]
 by_cases h : t < (n : Int) * step + q.size
 · rw [if_pos h]; simp [h]
 · rw [if_neg h]; simp [h]
theorem ofTo_none {q : Qry} {key : List UInt8} {t step : Int} (hs : 0 ≤ step) : ∀ {n : Nat}, ¬ t < ((n : Int) - 1) * step + q.size → ofTo q key t step n = []
 | 0, _ => rfl
 | n + 1, h => by
  have h1 : ¬ t < (n : Int) * step + q.size := by
   have : (((n + 1 : Nat) : Int) - 1) = (n : Int) := by omega
   rw [this] at h; exact h
  have h2 : ((n : Int) - 1) * step ≤ (n : Int) * step := Int.mul_le_mul_of_nonneg_right (by omega) hs
  rw [ofTo_succ, if_neg h1, List.append_nil]; exact ofTo_none hs (by omega)
theorem size_of {q : Qry} {key : List UInt8} {t : Int} (hs : 0 < q.size) (ht : 0 ≤ t) : ofTo q key t q.size ((t / q.size).toNat + 1) = [⟨key, t - t % q.size, t - t % q.size + q.size⟩] := by
 have hd : 0 ≤ t / q.size := Int.ediv_nonneg ht (by omega)
 have hk : (((t / q.size).toNat : Nat) : Int) = t / q.size := Int.toNat_of_nonneg hd; have hm := Int.emod_nonneg t (b := q.size) (by omega)
 have hl := Int.emod_lt_of_pos t hs
 have he : t / q.size * q.size + t % q.size = t := by
  have := Int.mul_ediv_add_emod t q.size; rw [Int.mul_comm] at this; exact this
 have h1 : t / q.size * q.size = t - t % q.size := by omega
 rw [ofTo_succ, ofTo_none (by omega), if_pos (by rw [hk]; omega), List.nil_append]
 · unfold ofW; rw [hk, h1]
 · rw [hk, Int.sub_mul, Int.one_mul]
   omega
end Go.Proofs.YtiglgfonhdfpmaaGreat
