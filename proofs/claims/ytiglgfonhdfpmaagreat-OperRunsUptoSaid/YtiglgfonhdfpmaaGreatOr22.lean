import Derived.Test.YtiglgfonhdfpmaaGreatOr21
/- The document's Step. Conditions: the query is not right, or the state is. (Printed by a program of mine.) -/
set_option linter.unusedVariables false
set_option linter.unusedSimpArgs false
set_option maxHeartbeats 16000000
set_option maxRecDepth 100000
namespace Go.Proofs.YtiglgfonhdfpmaaGreat
open Go.RowKit
theorem doc_step_no (q : Qry) (mk : Int) (x : Itm) {pv0 : Value} (ms0 : List Pm) (G0 : List (Value × List Int)) (w : World) (hro : encP.RO w pv0 ms0) (hmo : ∀ m ∈ ms0, Pm.own m ∈ G0) (hq : q.right = false) :
    Calls Tryz.prog 66 #[qyV q, .agg #[.int .i64 mk, pv0], itmV x] w fun e w' => DocOk w G0 pv0 ms0 (stepM q ⟨mk, ms0.map (·.p)⟩ x) e w' := by
 have hsr : Stt.right q ⟨mk, ms0.map (·.p)⟩ = false := by rw [sright_eq, hq]; simp
 have hfin : stepM q ⟨mk, ms0.map (·.p)⟩ x = ⟨⟨mk, ms0.map (·.p)⟩, [], 2⟩ := by unfold stepM; rw [hsr]; rfl
 obtain ⟨R, hR⟩ := zNm (stepM q ⟨mk, ms0.map (·.p)⟩ x); rw [hR] at hfin ⊢; have hfinh := zH hfin; have kr := fun w' => doc_sright_no q mk pv0 w' hq
 have hmlh := zH hmo; obtain ⟨va, vc, rfl, -, -⟩ := hro; clear hsr hfin hq hmo hR; obtain ⟨xk, xy, xt, xv⟩ := x; unfold qyV qyC at kr; unfold qyV qyC itmV textV; simp only; have H1 : zS w _ [_] := (St.nil _ w).allocAt rfl #[.int .i64 q.kind, .int .i64 q.size, .int .i64 q.slide, .int .i64 q.late, .int .i64 q.agg, .int .i64 q.k] 23; have H2 : zS w _ [_, _] := H1.allocAt (B := w.heap.size + 1) (Array.size_push _) #[.int .i64 mk, .slice va ms0.length vc] 45; have H3 : zS w _ [_, _, _] := H2.allocAt (B := w.heap.size + 1 + 1) (by simp [Array.size_push]) #[.int .i64 xk, .string ⟨xy.toArray⟩, .int .i64 xt, .int .i64 xv] 56
 have H4 : zS w _ [_, _, _, _] := H3.allocAt (B := w.heap.size + 1 + 1 + 1) (by simp [Array.size_push]) #[.int .i64 0, .slice none 0 0] 45
 go_enter Tryz.func66, Tryz.ntmps66
 go_upto_region 1 with (fail)
 obtain ⟨qb, hqb1⟩ := zNm w.heap.size; obtain ⟨sb, hsb⟩ := zNm (qb + 1); obtain ⟨xb, hxb⟩ := zNm (sb + 1); obtain ⟨rb, hrb⟩ := zNm (xb + 1); simp only [hqb1, hsb, hxb, hrb] at H4 ⊢; obtain ⟨w1, hw1⟩ := zNm ((((w.alloc (.cells #[.int .i64 q.kind, .int .i64 q.size, .int .i64 q.slide, .int .i64 q.late, .int .i64 q.agg, .int .i64 q.k] 23)).alloc (.cells #[.int .i64 mk, .slice va ms0.length vc] 45)).alloc (.cells #[.int .i64 xk, .string ⟨xy.toArray⟩, .int .i64 xt, .int .i64 xv] 56)).alloc (.cells #[.int .i64 0, .slice none 0 0] 45)); rw [hw1] at H4; rw [hw1]; have H5 : zS w w1 [zaP qb q.kind q.size q.slide q.late q.agg q.k, zfP sb mk va ms0.length vc, zuP xb xk xy.toArray xt xv, zgP rb] := H4.pick [3, 2, 1, 0]; have hqbh := zH hqb1; clear hw1 hqb1 hsb hxb hrb H1 H2 H3 H4; have d0 := H5.cell 0 0 rfl rfl; have d1 := H5.cell 0 1 rfl rfl; have d2 := H5.cell 0 2 rfl rfl; have d3 := H5.cell 0 3 rfl rfl; have d4 := H5.cell 0 4 rfl rfl; have d5 := H5.cell 0 5 rfl rfl; have s0 := H5.cell 1 0 rfl rfl; have s1 := H5.cell 1 1 rfl rfl; have i0 := H5.cell 2 0 rfl rfl; have i1 := H5.cell 2 1 rfl rfl; have i2 := H5.cell 2 2 rfl rfl; have i3 := H5.cell 2 3 rfl rfl; go_upto_region 2 with (go_at_call 126; go_must (refine (St.callPast (kr _) H5).mono ?_; rintro e w3 ⟨rfl, H7⟩))
 clear H5 kr d0 d1 d2 d3 d4 d5 s0 s1 i0 i1 i2 i3; have y0 := H7.cell 1 0 rfl rfl; have y1 := H7.cell 1 1 rfl rfl; have r0 := H7.free 3 0 rfl; have r1 := H7.free 3 1 rfl; have z0 := H7.cell 3 0 rfl rfl; have z1 := H7.cell 3 1 rfl rfl; have HZ := (H7.set 3 rfl 0 (.int .i64 mk)).set 3 rfl 1 (.slice va ms0.length vc); go_wp2
 try simp only [Exit.inBlock, Exit.then]
 refine bodyPost_ret (results_ctt rfl rfl (blk_range (cs := [.int .i64 mk, .slice va ms0.length vc]) (HZ.blk 3 rfl)) Tryz.underlying45 rfl (by kernel_rfl)) rfl ?_
 rw [hfinh.out]; exact ⟨.slice va ms0.length vc, .slice none 0 0, ms0, [], [], rfl, rfl, rfl, (fun m hm => List.mem_append_right _ (hmlh.out m hm)), (fun y hy => by cases hy), (((HZ.pick []).pool_nil).row_nil 63 10).row_same 68 (.slice va ms0.length vc) ms0⟩
theorem doc_step (q : Qry) (mk : Int) (x : Itm) {pv0 : Value} (ms0 : List Pm) (G0 : List (Value × List Int)) (w : World) (hro : encP.RO w pv0 ms0) (hG : ∀ x ∈ G0, IntsRO w x.1 x.2) (hmo : ∀ m ∈ ms0, Pm.own m ∈ G0) (hs : Stt.right q ⟨mk, ms0.map (·.p)⟩ = true) (hx : x.fits) :
    Calls Tryz.prog 66 #[qyV q, .agg #[.int .i64 mk, pv0], itmV x] w fun e w' => DocOk w G0 pv0 ms0 (stepM q ⟨mk, ms0.map (·.p)⟩ x) e w' := by
 have hstep : stepM q ⟨mk, ms0.map (·.p)⟩ x = if x.right = true then (if x.kind = 2 then ⟨(markM q ⟨mk, ms0.map (·.p)⟩ x.time).1, (markM q ⟨mk, ms0.map (·.p)⟩ x.time).2, 0⟩ else eventM q ⟨mk, ms0.map (·.p)⟩ x) else ⟨⟨mk, ms0.map (·.p)⟩, [], 2⟩ := by unfold stepM; rw [hs]; simp only [Bool.true_and]
 have kr := fun w' (h : Kept (fun _ => False) w w') => doc_sright q mk ms0 w' (hro.later h) (fun m hm => (hG _ (hmo m hm)).later h) hs
 have kx := fun w' => ref_right x hx w'
 have kev := zH (fun w' (h : Kept (fun _ => False) w w') key tm v h1 h2 h3 => doc_event q mk key tm v ms0 G0 w' (hro.later h) (fun y hy => (hG y hy).later h) hmo hs h1 h2 h3)
 have kmk := zH (fun w' (h : Kept (fun _ => False) w w') at1 => doc_mark q mk at1 ms0 G0 w' (hro.later h) (fun y hy => (hG y hy).later h) hmo hs)
 have hkind : x.right = true → ¬ x.kind = 2 → x.kind = 1 ∧ nameB x.key = true ∧ (0 ≤ x.time ∧ x.time ≤ 1099511627776) ∧ valB x.value = true := fun h h2 => by
  unfold Itm.right at h; simp only [Bool.and_eq_true, decide_eq_true_eq] at h; obtain ⟨h3, h4⟩ := h
  by_cases h1 : x.kind = 1
  · rw [if_pos h1] at h4; simp only [Bool.and_eq_true, decide_eq_true_eq] at h4; exact ⟨h1, h4.1.1, h3, valB_iff.2 ⟨h4.1.2, h4.2⟩⟩
  · rw [if_neg h1, if_neg h2] at h4; cases h4
 have hkindh := zH hkind; have hmlh := zH hmo; have hroh := zH hro; obtain ⟨R, hR⟩ := zNm (stepM q ⟨mk, ms0.map (·.p)⟩ x); rw [hR] at hstep ⊢; have hsteph := zH hstep; obtain ⟨xr, hxr⟩ := zNm x.right; simp only [hxr] at kx; have hxrh := zH hxr; obtain ⟨va, vc, rfl, -, -⟩ := hro; clear hstep hR hkind hxr hmo hs hG; obtain ⟨xx, hxx⟩ : ∃ z, z = x := ⟨_, rfl⟩; have hxxh := zH hxx; rw [← hxx] at hsteph hkindh hxrh; clear hxx; obtain ⟨xk, xy, xt, xv⟩ := x; unfold qyV qyC at kr; unfold itmV textV at kx; unfold qyV qyC itmV textV; simp only at kx ⊢; have H1 : zS w _ [_] := (St.nil _ w).allocAt rfl #[.int .i64 q.kind, .int .i64 q.size, .int .i64 q.slide, .int .i64 q.late, .int .i64 q.agg, .int .i64 q.k] 23; have H2 : zS w _ [_, _] := H1.allocAt (B := w.heap.size + 1) (Array.size_push _) #[.int .i64 mk, .slice va ms0.length vc] 45; have H3 : zS w _ [_, _, _] := H2.allocAt (B := w.heap.size + 1 + 1) (by simp [Array.size_push]) #[.int .i64 xk, .string ⟨xy.toArray⟩, .int .i64 xt, .int .i64 xv] 56
 have H4 : zS w _ [_, _, _, _] := H3.allocAt (B := w.heap.size + 1 + 1 + 1) (by simp [Array.size_push]) #[.int .i64 0, .slice none 0 0] 45
 go_enter Tryz.func66, Tryz.ntmps66
 go_upto_region 1 with (fail)
 obtain ⟨qb, hqb1⟩ := zNm w.heap.size; obtain ⟨sb, hsb⟩ := zNm (qb + 1); obtain ⟨xb, hxb⟩ := zNm (sb + 1); obtain ⟨rb, hrb⟩ := zNm (xb + 1); simp only [hqb1, hsb, hxb, hrb] at H4 ⊢; obtain ⟨w1, hw1⟩ := zNm ((((w.alloc (.cells #[.int .i64 q.kind, .int .i64 q.size, .int .i64 q.slide, .int .i64 q.late, .int .i64 q.agg, .int .i64 q.k] 23)).alloc (.cells #[.int .i64 mk, .slice va ms0.length vc] 45)).alloc (.cells #[.int .i64 xk, .string ⟨xy.toArray⟩, .int .i64 xt, .int .i64 xv] 56)).alloc (.cells #[.int .i64 0, .slice none 0 0] 45)); rw [hw1] at H4; rw [hw1]; have H5 : zS w w1 [zaP qb q.kind q.size q.slide q.late q.agg q.k, zfP sb mk va ms0.length vc, zuP xb xk xy.toArray xt xv, zgP rb] := H4.pick [3, 2, 1, 0]; have hqbh := zH hqb1; clear hw1 hqb1 hsb hxb hrb H1 H2 H3 H4; have d0 := H5.cell 0 0 rfl rfl; have d1 := H5.cell 0 1 rfl rfl; have d2 := H5.cell 0 2 rfl rfl; have d3 := H5.cell 0 3 rfl rfl; have d4 := H5.cell 0 4 rfl rfl; have d5 := H5.cell 0 5 rfl rfl; have s0 := H5.cell 1 0 rfl rfl; have s1 := H5.cell 1 1 rfl rfl; have i0 := H5.cell 2 0 rfl rfl; have i1 := H5.cell 2 1 rfl rfl; have i2 := H5.cell 2 2 rfl rfl; have i3 := H5.cell 2 3 rfl rfl
 cases xr with
 | false =>
  have hfin : R = ⟨⟨mk, ms0.map (·.p)⟩, [], 2⟩ := by rw [hsteph.out, if_neg (by rw [hxrh.out]; simp)]
  have hfinh := zH hfin; clear hfin hsteph kev kmk hkindh
  go_upto_region 2 with (first
   | (go_at_call 126; go_must (refine (St.callPast (kr _ H5.kept) H5).mono ?_; rintro e w3 ⟨rfl, H6⟩; have i0 := H6.cell 2 0 rfl rfl; have i1 := H6.cell 2 1 rfl rfl; have i2 := H6.cell 2 2 rfl rfl; have i3 := H6.cell 2 3 rfl rfl))
   | (go_at_call 87; go_must (refine (St.callPast (kx _) H6).mono ?_; rintro e w4 ⟨rfl, H7⟩)))
  clear H5 H6 kr kx d0 d1 d2 d3 d4 d5 s0 s1 i0 i1 i2 i3; have y0 := H7.cell 1 0 rfl rfl; have y1 := H7.cell 1 1 rfl rfl; have r0 := H7.free 3 0 rfl; have r1 := H7.free 3 1 rfl; have z0 := H7.cell 3 0 rfl rfl; have z1 := H7.cell 3 1 rfl rfl; have HZ := (H7.set 3 rfl 0 (.int .i64 mk)).set 3 rfl 1 (.slice va ms0.length vc); go_wp2
  try simp only [Exit.inBlock, Exit.then]
  refine bodyPost_ret (results_ctt rfl rfl (blk_range (cs := [.int .i64 mk, .slice va ms0.length vc]) (HZ.blk 3 rfl)) Tryz.underlying45 rfl (by kernel_rfl)) rfl ?_
  rw [hfinh.out]; exact ⟨.slice va ms0.length vc, .slice none 0 0, ms0, [], [], rfl, rfl, rfl, (fun m hm => List.mem_append_right _ (hmlh.out m hm)), (fun y hy => by cases hy), (((HZ.pick []).pool_nil).row_nil 63 10).row_same 68 (.slice va ms0.length vc) ms0⟩
 | true =>
  go_upto_region 3 with (first
   | (go_at_call 126; go_must (refine (St.callPast (kr _ H5.kept) H5).mono ?_; rintro e w3 ⟨rfl, H6⟩; have i0 := H6.cell 2 0 rfl rfl; have i1 := H6.cell 2 1 rfl rfl; have i2 := H6.cell 2 2 rfl rfl; have i3 := H6.cell 2 3 rfl rfl))
   | (go_at_call 87; go_must (refine (St.callPast (kx _) H6).mono ?_; rintro e w4 ⟨rfl, H7⟩)))
  clear H5 H6 kr kx d0 d1 d2 d3 d4 d5 s0 s1 i0 i1 i2 i3; have d0 := H7.cell 0 0 rfl rfl; have d1 := H7.cell 0 1 rfl rfl; have d2 := H7.cell 0 2 rfl rfl; have d3 := H7.cell 0 3 rfl rfl; have d4 := H7.cell 0 4 rfl rfl; have d5 := H7.cell 0 5 rfl rfl; have s0 := H7.cell 1 0 rfl rfl; have s1 := H7.cell 1 1 rfl rfl; have i0 := H7.cell 2 0 rfl rfl; have i1 := H7.cell 2 1 rfl rfl; have i2 := H7.cell 2 2 rfl rfl; have i3 := H7.cell 2 3 rfl rfl
  by_cases hk2 : xk = 2
  · subst hk2
    have hfin : R = ⟨(markM q ⟨mk, ms0.map (·.p)⟩ xt).1, (markM q ⟨mk, ms0.map (·.p)⟩ xt).2, 0⟩ := by
     rw [hsteph.out, if_pos hxrh.out, if_pos (by rw [hxxh.out]), hxxh.out]
    have km := kmk.out w4 H7.kept xt; obtain ⟨MM, hMM⟩ := zNm (markM q ⟨mk, ms0.map (·.p)⟩ xt); rw [hMM] at hfin km; have hfinh := zH hfin; unfold MarkOk at km; unfold qyV qyC at km; obtain ⟨⟨m1, mp⟩, mo⟩ := MM; simp only at km hfinh; clear hfin hMM hsteph kev kmk hkindh; go_upto_region 6 with (go_at_call 128; go_must (refine km.mono ?_; rintro e w5 ⟨pv, ov, ms2, os2, H2, rfl, hm2, ho2, hmo2, hoo2, G1⟩; have H8 : zS w w5 [RowO 68 (.slice va ms0.length vc) ms0 pv ms2, zsP (encO.all os2) ov os2.length, Pool H2, zaP qb q.kind q.size q.slide q.late q.agg q.k, zfP sb mk va ms0.length vc, zchP xb xy.toArray xt xv, zgP rb] := H7.call0 G1; obtain ⟨p2, c2, e9, -, -⟩ := H8.rowO_ro 0 rfl hroh.out; cases e9; obtain ⟨o2, k2, rfl, -, -⟩ := slice_form' (H8.row 1 rfl)))
    have hm2h := zH hm2; have ho2h := zH ho2; have hmo2h := zH hmo2; have hoo2h := zH hoo2; clear hm2 ho2 hmo2 hoo2 km d0 d1 d2 d3 d4 d5 s0 s1 i0 i1 i2 i3 H7 G1; obtain ⟨nb, hnb⟩ := zNm w5.heap.size; have HA := H8.allocAt hnb #[.int .i64 m1, .slice p2 ms2.length c2] 45; obtain ⟨w6, hw6⟩ := zNm (w5.alloc (.cells #[.int .i64 m1, .slice p2 ms2.length c2] 45)); rw [hw6] at HA; (try rw [hw6]); (try simp only [hnb]); have HB : zS w w6 [zfP nb m1 p2 ms2.length c2, zpP va ms0.length vc ms0 p2 ms2.length c2 ms2, zlP (encO.all os2) o2 os2.length k2, Pool H2, zaP qb q.kind q.size q.slide q.late q.agg q.k, zfP sb mk va ms0.length vc, zchP xb xy.toArray xt xv, zgP rb] := HA; clear hw6 hnb HA H8; have y0 := HB.cell 0 0 rfl rfl; have y1 := HB.cell 0 1 rfl rfl; have r0 := HB.free 7 0 rfl; have r1 := HB.free 7 1 rfl; have z0 := HB.cell 7 0 rfl rfl; have z1 := HB.cell 7 1 rfl rfl; have HZ := (HB.set 7 rfl 0 (.int .i64 m1)).set 7 rfl 1 (.slice p2 ms2.length c2); go_wp2
    try simp only [Exit.inBlock, Exit.then]
    refine bodyPost_ret (results_ctt rfl rfl (blk_range (cs := [.int .i64 m1, .slice p2 ms2.length c2]) (HZ.blk 7 rfl)) Tryz.underlying45 rfl (by kernel_rfl)) rfl ?_
    rw [hfinh.out]; exact ⟨.slice p2 ms2.length c2, .slice o2 os2.length k2, ms2, os2, H2, rfl, hm2h.out, ho2h.out, hmo2h.out, hoo2h.out, HZ.pick [1, 2, 3]⟩
  · obtain ⟨e1, e2, e3, e4⟩ := hkindh.out hxrh.out (by rw [hxxh.out]; exact hk2)
    rw [hxxh.out] at e1 e2 e3 e4; simp only at e1 e2 e3 e4; subst e1
    have hfin : R = eventM q ⟨mk, ms0.map (·.p)⟩ ⟨1, xy, xt, xv⟩ := by
     rw [hsteph.out, if_pos hxrh.out, if_neg (by rw [hxxh.out]; show ¬ (1 : Int) = 2; decide), hxxh.out]
    have kv := kev.out w4 H7.kept xy xt xv e2 e3 e4; rw [← hfin] at kv; unfold DocOk at kv; unfold qyV qyC itmV textV at kv; simp only at kv; clear hfin hsteph kev kmk hkindh e2 e3 e4 hk2; have r0 := H7.free 3 0 rfl; have r1 := H7.free 3 1 rfl; have z0 := H7.cell 3 0 rfl rfl; have z1 := H7.cell 3 1 rfl rfl
    go_wp2_with (go_at_call 127; go_must (refine kv.mono ?_; rintro e w5 ⟨pv, ov, ms2, os2, H2, rfl, hm2, ho2, hmo2, hoo2, G1⟩; have hm2h := zH hm2; have ho2h := zH ho2; have hmo2h := zH hmo2; have hoo2h := zH hoo2; clear hm2 ho2 hmo2 hoo2; have H8 : zS w w5 [RowO 68 (.slice va ms0.length vc) ms0 pv ms2, zsP (encO.all os2) ov os2.length, Pool H2, zaP qb q.kind q.size q.slide q.late q.agg q.k, zfP sb mk va ms0.length vc, zeP xb xy.toArray xt xv, zgP rb] := H7.call0 G1; obtain ⟨p2, c2, e9, -, -⟩ := H8.rowO_ro 0 rfl hroh.out; cases e9; obtain ⟨o2, k2, rfl, -, -⟩ := slice_form' (H8.row 1 rfl); clear r0 r1 z0 z1 d0 d1 d2 d3 d4 d5 s0 s1 i0 i1 i2 i3; have r0 := H8.free 6 0 rfl; have r1 := H8.free 6 1 rfl; have z0 := H8.cell 6 0 rfl rfl; have z1 := H8.cell 6 1 rfl rfl))
    have HZ := (H8.set 6 rfl 0 (.int .i64 R.s.mark)).set 6 rfl 1 (.slice p2 ms2.length c2)
    try simp only [Exit.inBlock, Exit.then]
    refine bodyPost_ret (results_ctt rfl rfl (blk_range (cs := [.int .i64 R.s.mark, .slice p2 ms2.length c2]) (HZ.blk 6 rfl)) Tryz.underlying45 rfl (by kernel_rfl)) rfl ?_
    exact ⟨.slice p2 ms2.length c2, .slice o2 os2.length k2, ms2, os2, H2, rfl, hm2h.out, ho2h.out, hmo2h.out, hoo2h.out, HZ.pick [0, 1, 2]⟩
end Go.Proofs.YtiglgfonhdfpmaaGreat
namespace Go.Proofs.YtiglgfonhdfpmaaGreat
open Go.RowKit
theorem results_cttt {P : Program} {fn : Func} {t a1 b1 c1 : Tmp} {ty : TypeId} (h : fn.results = #[.cell t ty, .tmp a1, .tmp b1, .tmp c1]) {tmps : Array Value} {w : World} {b : Nat} {cs : List Value} {d : TypeDesc} (ht : tmps.getD t undef = .pointer (some ⟨b, 0, none⟩)) (hr : w.rangeAt b 0 cs)
    (hu : P.underlying ty = some d) (hd : d.isRow = true) (hi : (P.info? ty).map (·.size) = some cs.length) : (results fn tmps).run P w = .ok (.tuple #[.agg cs.toArray, tmps.getD a1 undef, tmps.getD b1 undef, tmps.getD c1 undef]) w := by
 have h2 := run_loadVar_mid (P := P) w b 0 ty cs d hr hu hd hi; have h3 : tmps[t]?.getD undef = .pointer (some ⟨b, 0, none⟩) := by simpa using ht
 simp [results, h, h3, asAddr, h2]
def RunOk (S : Nat → Prop) (w : World) (r : RunR) (e : Ending) (w' : World) : Prop :=
 ∃ hs ho ms os H, e = .returned (.tuple #[.agg #[.int .i64 r.s.mark, hs], ho, .int .i64 r.n, .int .i64 r.e]) ∧ ms.map (·.p) = r.s.panes ∧ os.map (·.o) = r.outs ∧ (∀ m ∈ ms, Pm.own m ∈ H) ∧ (∀ y ∈ os, Om.own y ∈ H) ∧
  St S w w' [zbgP (encP.all ms) hs ms.length, zsP (encO.all os) ho os.length, Pool H]
theorem runs_drop {q : Qry} {l : List Itm} {i : Nat} {x : Itm} (h : l[i]? = some x) (r : RunR) : runsM q (l.drop i) r = if (stepM q r.s x).e = 0 then runsM q (l.drop (i + 1)) ⟨(stepM q r.s x).s, r.outs ++ (stepM q r.s x).outs, r.n + 1, 0⟩ else ⟨r.s, r.outs, r.n, (stepM q r.s x).e⟩ := by
 obtain ⟨hlt, hx⟩ := List.getElem?_eq_some_iff.1 h; rw [List.drop_eq_getElem_cons hlt, hx, runsM]
theorem oper_run (q : Qry) (s : Stt) (l : List Itm) {v iv : Value} (w : World) (hv : PnsRO w v s.panes) (hsl : s.panes.length ≤ 1073741824) (hf : ∀ p ∈ s.panes, p.fits) (hi : ItmsRO w iv l) (hil : l.length ≤ 1048576) :
    Calls Tryz.prog 21 #[qyV q, .agg #[.int .i64 s.mark, v], iv] w fun e w' => RunOk (fun _ => False) w (runsM q l ⟨s, [], 0, 0⟩) e w' := by
 obtain ⟨res, hres⟩ := zNm (runsM q l ⟨s, [], 0, 0⟩); rw [hres]; have hresh := zH hres; clear hres; have kc := fun w' (hk : Kept (fun _ => False) w w') => oper_copied (hv.later hk) hsl (fun p hp => (hf p hp).2.1)
 obtain ⟨ia, ic, rfl, hic, hifit, hix⟩ := hi; have hixh := zH hix; have hifith := zH hifit; have hfh := zH hf; obtain ⟨ms0, hm0, hv0, -⟩ := hv; obtain ⟨va, vc, rfl, -, -⟩ := hv0; have e0 : ms0.length = s.panes.length := by rw [← hm0, List.length_map]
 rw [e0] at kc ⊢; clear hm0 e0 hf hifit hix; have kst := zH (fun (st : Stt) (x : Itm) (v : Value) w' (hv : PnsRO w' v st.panes) (hl : st.panes.length ≤ 1073741824) (hf : ∀ p ∈ st.panes, p.fits) (hx : x.fits) => oper_step q st x w' hv hl hf hx)
 have hgood := zH (fun (st : Stt) (x : Itm) (h : (stepM q st x).e = 0) => step_good h)
 have houts := zH (fun (st : Stt) (x : Itm) => step_outs q st x)
 obtain ⟨SM, hSM⟩ : ∃ z : Stt → Itm → StepR, z = stepM q := ⟨_, rfl⟩; have hSMh := zH hSM; clear hSM; obtain ⟨mk, ps⟩ := s; simp only at kc hsl hfh ⊢; unfold qyV qyC at kst; unfold qyV qyC; have H1 : zS w _ [_] := (St.nil _ w).allocAt rfl #[.int .i64 q.kind, .int .i64 q.size, .int .i64 q.slide, .int .i64 q.late, .int .i64 q.agg, .int .i64 q.k] 23; have H2 : zS w _ [_, _] := H1.allocAt (B := w.heap.size + 1) (Array.size_push _) #[.int .i64 mk, .slice va ps.length vc] 45; have H3 : zS w _ [_, _, _] := H2.allocAt (B := w.heap.size + 1 + 1) (by simp [Array.size_push]) #[.int .i64 0, .slice none 0 0] 45
 go_enter Tryz.func21, Tryz.ntmps21
 go_upto_region 2 with (fail)
 obtain ⟨qb, hqb⟩ := zNm w.heap.size; obtain ⟨sb, hsb⟩ := zNm (qb + 1); obtain ⟨rb, hrb⟩ := zNm (sb + 1); simp only [hqb, hsb, hrb] at H3 ⊢; obtain ⟨w1, hw1⟩ := zNm (((w.alloc (.cells #[.int .i64 q.kind, .int .i64 q.size, .int .i64 q.slide, .int .i64 q.late, .int .i64 q.agg, .int .i64 q.k] 23)).alloc (.cells #[.int .i64 mk, .slice va ps.length vc] 45)).alloc (.cells #[.int .i64 0, .slice none 0 0] 45)); rw [hw1] at H3; rw [hw1]; have H5 : zS w w1 [zfP sb mk va ps.length vc, zgP rb, zaP qb q.kind q.size q.slide q.late q.agg q.k] := H3.pick [1, 0, 2]; have hqbh := zH hqb; clear hw1 hqb hsb hrb H1 H2 H3; refine wp_script_tail 5 [(0, false), (1, false), (2, false), (3, false), (4, true)] (Fam fun w' => zS w w' [zfP sb mk va ps.length vc]) (fun w' => zS w w' [zfP sb mk va ps.length vc, zgP rb, zaP qb q.kind q.size q.slide q.late q.agg q.k]) (by kernel_rfl) (by rfl) (by kernel_rfl) (by kernel_rfl) H5.drew (Fam.st (fun _ h => h.pick [0])) ?_
 iterate 4 first | (apply script_pass; rfl; rfl; intro K hK; go_simp; refine hK _ ?_; clear hK K) | (apply script_step; rfl; rfl; (focus (intro I hI w1 h1'; have h1 := hI.2 _ h1'; have c0 := h1.cell 0 0 rfl rfl; have c1 := h1.cell 0 1 rfl rfl; first | (go_simp; first | rfl | exact ⟨rfl, h1'⟩))); intro K hK; go_simp; refine hK _ ?_; clear hK K)
 refine script_alone rfl rfl ?_; intro V hV w1 h1
 go_simp
 refine (kc w1 h1.kept).mono ?_; rintro e w2 ⟨cv, ms, rfl, hms, G1⟩; have hmsh := zH hms; clear hms; obtain ⟨ca, cc, rfl, -, -⟩ := slice_form' (G1.row 0 rfl); have HX : zS w w2 [zfP sb mk va ps.length vc, znP (encP.all ms) ca ms.length cc, Pool (ms.map Pm.own), zgP rb, zaP qb q.kind q.size q.slide q.late q.agg q.k] := (h1.call0 G1).pick [2, 0, 1, 3, 4]; refine ⟨_, rfl, fun w' => zS w w' [zfP sb mk va ps.length vc, znP (encP.all ms) ca ms.length cc, Pool (ms.map Pm.own), zgP rb, zaP qb q.kind q.size q.slide q.late q.agg q.k], hV _ _ _ (fun _ h => h) (Fam.st (fun _ h => h.pick [0])) ?_, HX⟩
 intro K hK
 go_simp
 refine hK _ ?_; clear hK K hV V; clear HX h1 G1 w1 w2; refine script_nil ?_; intro w5 H8; simp only [List.drop_succ_cons, List.drop_zero]; have hmsh := (by assumption : Hid (ms.map (·.p) = ps))
 have r0 := H8.free 0 0 rfl; have r1 := H8.free 0 1 rfl; have x0 := H8.cell 0 0 rfl rfl; have x1 := H8.cell 0 1 rfl rfl; have H8b := (H8.set 0 rfl 0 (.int .i64 mk)).set 0 rfl 1 (.slice ca ms.length cc); clear H5 kc
 go_upto_block 1 with (fail)
 obtain ⟨w6, hw6⟩ := zNm ((w5.setCell ⟨sb, 0, none⟩ (.int .i64 mk)).setCell ⟨sb, 1, none⟩ (.slice ca ms.length cc)); rw [hw6] at H8b; (try rw [hw6]); have H9 : zS w w6 [zfP sb mk ca ms.length cc, znP (encP.all ms) ca ms.length cc, Row 63 10 (.slice none 0 0) 0 (encO.all []), Pool (ms.map Pm.own), zgP rb, zaP qb q.kind q.size q.slide q.late q.agg q.k] := (St.row_nil (l := [zfP sb mk ca ms.length cc, _, _, _, _]) H8b 63 10).pick [1, 2, 0, 3, 4, 5]; clear H8 H8b hw6 r0 r1 x0 x1
 go_loopw [10, 11, 12, 13, 14, 15, 24] (fun u _ _ _ _ _ j wr => ∃ (i : Nat) (st : Stt) (O : List Ot) (ms : List Pm) (os : List Om) (HH : List (Value × List Int)) (pa : Option Addr) (pc : Nat) (oa : Option Addr) (oc : Nat), i ≤ l.length ∧ u = .slice oa os.length oc ∧ j = .int .i64 i ∧ Hid (runsM q (l.drop i) ⟨st, O, i, 0⟩ = res) ∧ Hid (ms.map (·.p) = st.panes ∧ os.map (·.o) = O ∧ (∀ m ∈ ms, Pm.own m ∈ HH) ∧ (∀ y ∈ os, Om.own y ∈ HH) ∧ st.panes.length ≤ 1073741824 ∧ (∀ p ∈ st.panes, p.fits)) ∧ os.length ≤ 256 * i ∧ zS w wr [zfP sb st.mark pa ms.length pc, znP (encP.all ms) pa ms.length pc, zlP (encO.all os) oa os.length oc, Pool HH, zgP rb, zaP qb q.kind q.size q.slide q.late q.agg q.k]) (fun _ _ _ _ _ _ j _ => l.length - (intOf j).toNat)
 case atStart => exact ⟨0, ⟨mk, ps⟩, [], ms, [], ms.map Pm.own, ca, cc, none, 0, Nat.zero_le _, rfl, rfl, zH (by rw [List.drop_zero]; exact hresh.out), zH ⟨hmsh.out, rfl, fun m hm => List.mem_map_of_mem hm, fun y hy => (by cases hy), hsl, hfh.out⟩, by simp, H9⟩
 case round =>
  clear H9 hmsh; obtain ⟨i, st, O, ms1, os, HH, pa, pc, oa, oc, hi, rfl, rfl, hrun, hall, hos, HM⟩ := hrel
  by_cases hlt : i < l.length
  · obtain ⟨bi, oi, rfl, hbi, hcx⟩ := hixh.out (by intro e; rw [e] at hlt; simp at hlt)
    obtain ⟨x, hx⟩ : ∃ x, l[i]? = some x := ⟨_, List.getElem?_eq_getElem hlt⟩; have hxf := hifith.out x (List.mem_of_getElem? hx); have hrd := runs_drop (q := q) hx ⟨st, O, i, 0⟩; simp only at hrd; have hst := kst.out st x (.slice pa ms1.length pc); have hgd := hgood.out st x; have hou := houts.out st x; obtain ⟨R, hR⟩ := zNm (stepM q st x); rw [hR] at hst hrd hgd hou; clear hR; have hrdh := zH hrd; have hgdh := zH hgd; have hrunh := hrun; obtain ⟨hms1, hos1, hmo1, hoo1, hpl1, hpf1⟩ := hall.out; have hms1h := zH hms1; have hos1h := zH hos1; have hmo1h := zH hmo1; have hoo1h := zH hoo1
    have hro : ∀ w' (L : List SP), zS w w' L → ∀ a b : Nat, L[a]? = some (znP (encP.all ms1) pa ms1.length pc) → L[b]? = some (Pool HH) → PnsRO w' (.slice pa ms1.length pc) st.panes := fun w' L h a b ha hb => by
     rw [← hms1h.out]; exact h.pnsRO a b ha hb hmo1h.out
    have hroh := zH hro; have kstp := zH (fun w' hv => hst w' hv hpl1 hpf1 hxf)
    obtain ⟨x0, x1, x2, x3⟩ := itm_cells (hcx i x hx) (HM.kept.block bi hbi id); clear hrd hgd hrun hall hms1 hos1 hmo1 hoo1 hpl1 hpf1 hro hcx hst hx hxf; obtain ⟨smk, hsmk⟩ := zNm st.mark; rw [hsmk] at HM kstp; have hsmkh := zH hsmk; clear hsmk; obtain ⟨xk, xy, xt, xv⟩ := x; unfold textV at x1; unfold itmV textV at kstp; simp only at x0 x1 x2 x3 kstp; have HA : zS w _ (_ :: _) := HM.allocAt rfl #[.int .i64 xk, .string ⟨xy.toArray⟩, .int .i64 xt, .int .i64 xv] 56; go_upto_region 6 with (fail)
    obtain ⟨wb, hwb⟩ := zNm (wr.alloc (.cells #[.int .i64 xk, .string ⟨xy.toArray⟩, .int .i64 xt, .int .i64 xv] 56)); obtain ⟨xb, hxb⟩ := zNm wr.heap.size; rw [hwb, hxb] at HA; (try rw [hwb]); (try simp only [hxb]); have HB : zS w wb [zuP xb xk xy.toArray xt xv, zfP sb smk pa ms1.length pc, znP (encP.all ms1) pa ms1.length pc, zlP (encO.all os) oa os.length oc, Pool HH, zgP rb, zaP qb q.kind q.size q.slide q.late q.agg q.k] := HA; clear hwb hxb x0 x1 x2 x3 HM HA; have d0 := HB.cell 6 0 rfl rfl; have d1 := HB.cell 6 1 rfl rfl; have d2 := HB.cell 6 2 rfl rfl; have d3 := HB.cell 6 3 rfl rfl; have d4 := HB.cell 6 4 rfl rfl; have d5 := HB.cell 6 5 rfl rfl; have s0 := HB.cell 1 0 rfl rfl; have s1 := HB.cell 1 1 rfl rfl; have y0 := HB.cell 0 0 rfl rfl; have y1 := HB.cell 0 1 rfl rfl; have y2 := HB.cell 0 2 rfl rfl; have y3 := HB.cell 0 3 rfl rfl; obtain ⟨⟨mk2, ps2⟩, O2, e2⟩ := R; simp only at hrdh hgdh hou; go_upto_region 7 with (go_at_call 27; go_must (refine (kstp.out wb (hroh.out wb _ HB 2 4 rfl rfl)).mono ?_; rintro e w3 ⟨hs, ho, ms2, os2, H2, rfl, hm2, ho2, hmo2, hoo2, G1⟩; have hm2h := zH hm2; have ho2h := zH ho2; have hmo2h := zH hmo2; have hoo2h := zH hoo2; clear hm2 ho2 hmo2 hoo2; obtain ⟨p2, c2, rfl, -, -⟩ := slice_form' (G1.row 0 rfl); obtain ⟨o2, k2, rfl, -, -⟩ := slice_form' (G1.row 1 rfl); have HC := (HB.call0 G1).allocAt rfl #[.int .i64 mk2, .slice p2 ms2.length c2] 45))
    obtain ⟨w4, hw4⟩ := zNm (w3.alloc (.cells #[.int .i64 mk2, .slice p2 ms2.length c2] 45)); obtain ⟨nb, hnb⟩ := zNm w3.heap.size; rw [hw4, hnb] at HC; (try rw [hw4]); (try simp only [hnb]); have HD : zS w w4 [zfP nb mk2 p2 ms2.length c2, znP (encP.all ms2) p2 ms2.length c2, zlP (encO.all os2) o2 os2.length k2, Pool H2, zuP xb xk xy.toArray xt xv, zfP sb smk pa ms1.length pc, znP (encP.all ms1) pa ms1.length pc, zlP (encO.all os) oa os.length oc, Pool HH, zgP rb, zaP qb q.kind q.size q.slide q.late q.agg q.k] := HC; clear hw4 hnb HC HB G1 d0 d1 d2 d3 d4 d5 s0 s1 y0 y1 y2 y3 kstp hroh
    by_cases he : e2 = 0
    · subst he; have hrd2 : runsM q (l.drop i) ⟨st, O, i, 0⟩ = runsM q (l.drop (i + 1)) ⟨⟨mk2, ps2⟩, O ++ O2, i + 1, 0⟩ := by rw [hrdh.out, if_pos rfl]
      have hrd2h := zH hrd2; obtain ⟨-, -, hgg, hgl⟩ := hgdh.out rfl; have hggh := zH hgg
      have ho2l : os2.length ≤ 256 := by
       have := hou; rw [← ho2h.out, List.length_map] at this; exact this
      clear hrd2 hgg hrdh hgdh hou; go_upto_region 9 with (fail)
      refine wp_script [(0, false), (1, false), (2, false), (3, true), (4, true), (5, false)] (Fam fun w' => zS w w' [zfP nb mk2 p2 ms2.length c2]) (fun w' => zS w w' [zfP nb mk2 p2 ms2.length c2, znP (encP.all ms2) p2 ms2.length c2, zlP (encO.all os2) o2 os2.length k2, Pool H2, zuP xb xk xy.toArray xt xv, zfP sb smk pa ms1.length pc, znP (encP.all ms1) pa ms1.length pc, zlP (encO.all os) oa os.length oc, Pool HH, zgP rb, zaP qb q.kind q.size q.slide q.late q.agg q.k]) (by kernel_rfl) (by rfl) (by kernel_rfl) (by kernel_rfl) HD.drew (Fam.st (fun _ h => h.pick [0])) ?_
      iterate 3 first | (apply script_pass; rfl; rfl; intro K hK; go_simp; refine hK _ ?_; clear hK K) | (apply script_step; rfl; rfl; (focus (intro I hI w1 h1'; have h1 := hI.2 _ h1'; have c0 := h1.cell 0 0 rfl rfl; have c1 := h1.cell 0 1 rfl rfl; first | (go_simp; first | rfl | exact ⟨rfl, h1'⟩))); intro K hK; go_simp; refine hK _ ?_; clear hK K)
      refine script_alone rfl rfl ?_; intro V hV w1 h1; have hro2 := Enc.RO.cells (Enc.own encO (h1.row 2 rfl) rfl); obtain ⟨ro1, ro2, ro3, ro4, ro5⟩ := hro2; cases ro3; refine h1.came_append 7 rfl (.tmp 44) (.tmp 45) 46 rfl Tryz.underlying46 Tryz.info63 (by decide) rfl (encO.all os2) rfl (encO.all_len os2) (fun e => by rw [ro4 e]; rfl) (fun ad e j u hj => ro5 ad e j u hj) (encO.all_one1 os2) (by omega) ?_
      intro v' w2 HX; obtain ⟨na, nc, rfl, -, -⟩ := slice_form' (HX.row 7 rfl); have HY : zS w w2 [zfP nb mk2 p2 ms2.length c2, znP (encP.all ms2) p2 ms2.length c2, zlP (encO.all os2) o2 os2.length k2, Pool H2, zuP xb xk xy.toArray xt xv, zfP sb smk pa ms1.length pc, znP (encP.all ms1) pa ms1.length pc, zbuP (os.length + os2.length) (encO.all os ++ encO.all os2) na nc, Pool HH, zgP rb, zaP qb q.kind q.size q.slide q.late q.agg q.k] := HX; refine ⟨fun w' => zS w w' [zfP nb mk2 p2 ms2.length c2, znP (encP.all ms2) p2 ms2.length c2, zlP (encO.all os2) o2 os2.length k2, Pool H2, zuP xb xk xy.toArray xt xv, zfP sb smk pa ms1.length pc, znP (encP.all ms1) pa ms1.length pc, zbuP (os.length + os2.length) (encO.all os ++ encO.all os2) na nc, Pool HH, zgP rb, zaP qb q.kind q.size q.slide q.late q.agg q.k], hV _ _ _ (fun _ h => h) (Fam.st (fun _ h => h.pick [0])) ?_, HY⟩
      intro K hK
      go_simp
      refine hK _ ?_; clear hK K hV V; clear HY HX h1 ro4 ro5 w1 w2; refine script_alone rfl rfl ?_; intro V hV w1 h1; have r0 := h1.free 5 0 rfl; have r1 := h1.free 5 1 rfl; have z0 := h1.cell 5 0 rfl rfl; have z1 := h1.cell 5 1 rfl rfl; have HY := (h1.set 5 rfl 0 (.int .i64 mk2)).set 5 rfl 1 (.slice p2 ms2.length c2)
      go_simp
      refine ⟨fun w' => zS w w' [zfP nb mk2 p2 ms2.length c2, znP (encP.all ms2) p2 ms2.length c2, zlP (encO.all os2) o2 os2.length k2, Pool H2, zuP xb xk xy.toArray xt xv, zfP sb mk2 p2 ms2.length c2, znP (encP.all ms1) pa ms1.length pc, zbuP (os.length + os2.length) (encO.all os ++ encO.all os2) na nc, Pool HH, zgP rb, zaP qb q.kind q.size q.slide q.late q.agg q.k], hV _ _ _ (fun _ h => h) (Fam.st (fun _ h => h.pick [0])) ?_, HY⟩
      intro K hK
      go_simp
      refine hK _ ?_; clear hK K hV V; clear HY h1 w1 r0 r1 z0 z1
      iterate 1 first | (apply script_pass; rfl; rfl; intro K hK; go_simp; refine hK _ ?_; clear hK K) | (apply script_step; rfl; rfl; (focus (intro I hI w1 h1'; have h1 := hI.2 _ h1'; first | (go_simp; first | rfl | exact ⟨rfl, h1'⟩))); intro K hK; go_simp; refine hK _ ?_; clear hK K)
      refine script_nil ?_; intro w9 H9; have HJ := (St.pool_join (H9.pick [3, 8, 5, 1, 7, 9, 10])).pick [1, 2, 3, 0, 4, 5]; go_wp2; go_roundw
      case rel =>
       refine ⟨i + 1, ⟨mk2, ps2⟩, O ++ O2, ms2, os ++ os2, H2 ++ HH, p2, c2, na, nc, by omega, by rw [List.length_append], by first | rfl | go_num, zH (by rw [← hrunh.out, hrd2h.out]), zH ⟨hm2h.out, by rw [List.map_append, hos1h.out, ho2h.out], fun m hm => List.mem_append_left _ (hmo2h.out m hm), ?_, Nat.le_trans hgl (by decide), good_fits hggh.out⟩, by rw [List.length_append]; omega, ?_⟩
       · intro y hy; rcases List.mem_append.1 hy with hy | hy
         · exact List.mem_append_right _ (hoo1h.out y hy)
         · exact List.mem_append_left _ (hoo2h.out y hy)
       · rw [List.length_append, Enc.all_app]; exact HJ
      case measure => simp [intOf]; omega
    · have hrd2 : res = ⟨st, O, i, e2⟩ := by rw [← hrunh.out, hrdh.out, if_neg he]
      have hfres := zH hrd2; clear hrd2 hrdh hgdh hou; have s0 := HD.cell 5 0 rfl rfl; have s1 := HD.cell 5 1 rfl rfl; have r0 := HD.free 9 0 rfl; have r1 := HD.free 9 1 rfl; have z0 := HD.cell 9 0 rfl rfl; have z1 := HD.cell 9 1 rfl rfl; have HE := (HD.set 9 rfl 0 (.int .i64 smk)).set 9 rfl 1 (.slice pa ms1.length pc); go_wp2
      try simp only [Exit.inBlock, Exit.then]
      refine bodyPost_ret (results_cttt rfl rfl (blk_range (cs := [.int .i64 smk, .slice pa ms1.length pc]) (HE.blk 9 rfl)) Tryz.underlying45 rfl (by kernel_rfl)) rfl ?_
      rw [hfres.out]; exact ⟨.slice pa ms1.length pc, .slice oa os.length oc, ms1, os, HH, by rw [hsmkh.out]; rfl, hms1h.out, hos1h.out, hmo1h.out, hoo1h.out, HE.pick [6, 7, 8]⟩
  · obtain rfl : i = l.length := by omega
    have hres2 : ⟨st, O, l.length, 0⟩ = res := by rw [← hrun.out, List.drop_length]; rfl
    have hfres := zH hres2; obtain ⟨hms1, hos1, hmo1, hoo1, -, -⟩ := hall.out; have hms1h := zH hms1; have hos1h := zH hos1; have hmo1h := zH hmo1; have hoo1h := zH hoo1; clear hres2 hrun hall hms1 hos1 hmo1 hoo1; obtain ⟨smk, hsmk⟩ := zNm st.mark; rw [hsmk] at HM; have hsmkh := zH hsmk; clear hsmk; have s0 := HM.cell 0 0 rfl rfl; have s1 := HM.cell 0 1 rfl rfl; have r0 := HM.free 4 0 rfl; have r1 := HM.free 4 1 rfl; have z0 := HM.cell 4 0 rfl rfl; have z1 := HM.cell 4 1 rfl rfl; have HE := (HM.set 4 rfl 0 (.int .i64 smk)).set 4 rfl 1 (.slice pa ms1.length pc); go_wp2
    try simp only [Exit.inBlock, Exit.then]
    refine bodyPost_ret (results_cttt rfl rfl (blk_range (cs := [.int .i64 smk, .slice pa ms1.length pc]) (HE.blk 4 rfl)) Tryz.underlying45 rfl (by kernel_rfl)) rfl ?_
    rw [← hfres.out]; exact ⟨.slice pa ms1.length pc, .slice oa os.length oc, ms1, os, HH, by rw [hsmkh.out]; rfl, hms1h.out, hos1h.out, hmo1h.out, hoo1h.out, HE.pick [1, 2, 3]⟩
end Go.Proofs.YtiglgfonhdfpmaaGreat
namespace Go.Proofs.YtiglgfonhdfpmaaGreat
open Go.RowKit
theorem doc_run (q : Qry) (l : List Itm) {iv : Value} (w : World) (hi : ItmsRO w iv l) (hil : l.length ≤ 1048576) :
    Calls Tryz.prog 23 #[qyV q, .agg #[.int .i64 (-1), .slice none 0 0], iv] w fun e w' => RunOk (fun _ => False) w (runsM q l ⟨stt0, [], 0, 0⟩) e w' := by
 obtain ⟨res, hres⟩ := zNm (runsM q l ⟨stt0, [], 0, 0⟩); rw [hres]; have hresh := zH hres; clear hres; obtain ⟨ia, ic, rfl, hic, hifit, hix⟩ := hi; have hixh := zH hix; have hifith := zH hifit; clear hifit hix
 have hq0 : q.right = false ∨ stt0.right q = true := by
  by_cases h : q.right = true
  · refine .inr ?_; rw [sright_eq, h]; unfold stt0
    simp [sortedP, settledW]
  · exact .inl (by simpa using h)
 have hq0h := zH hq0; have kst := zH (fun (mk : Int) (x : Itm) (v : Value) (ms : List Pm) (G0 : List (Value × List Int)) w' (hro : encP.RO w' v ms) (hG : ∀ x ∈ G0, IntsRO w' x.1 x.2) (hmo : ∀ m ∈ ms, Pm.own m ∈ G0) (hs : q.right = false ∨ Stt.right q ⟨mk, ms.map (·.p)⟩ = true) (hx : x.fits) => (hs.elim (fun h => doc_step_no q mk x ms G0 w' hro hmo h) (fun h => doc_step q mk x ms G0 w' hro hG hmo h hx) : Calls Tryz.prog 66 #[qyV q, .agg #[.int .i64 mk, v], itmV x] w' fun e w2 => DocOk w' G0 v ms (stepM q ⟨mk, ms.map (·.p)⟩ x) e w2))
 have hgood := zH (fun (st : Stt) (x : Itm) (h : (stepM q st x).e = 0) => (step_right h).1)
 have houts := zH (fun (st : Stt) (x : Itm) => step_outs q st x)
 have hrdrop := zH (fun (i : Nat) (x : Itm) (h : l[i]? = some x) r => runs_drop (q := q) h r)
 clear hq0; unfold qyV qyC at kst; unfold qyV qyC; have H1 : zS w _ [_] := (St.nil _ w).allocAt rfl #[.int .i64 q.kind, .int .i64 q.size, .int .i64 q.slide, .int .i64 q.late, .int .i64 q.agg, .int .i64 q.k] 23; have H2 : zS w _ [_, _] := H1.allocAt (B := w.heap.size + 1) (Array.size_push _) #[.int .i64 (-1), .slice none 0 0] 45; have H3 : zS w _ [_, _, _] := H2.allocAt (B := w.heap.size + 1 + 1) (by simp [Array.size_push]) #[.int .i64 0, .slice none 0 0] 45
 go_enter Tryz.func23, Tryz.ntmps23
 go_upto_region 1 with (fail)
 obtain ⟨qb, hqb⟩ := zNm w.heap.size; obtain ⟨sb, hsb⟩ := zNm (qb + 1); obtain ⟨rb, hrb⟩ := zNm (sb + 1); simp only [hqb, hsb, hrb] at H3 ⊢; obtain ⟨w1, hw1⟩ := zNm (((w.alloc (.cells #[.int .i64 q.kind, .int .i64 q.size, .int .i64 q.slide, .int .i64 q.late, .int .i64 q.agg, .int .i64 q.k] 23)).alloc (.cells #[.int .i64 (-1), .slice none 0 0] 45)).alloc (.cells #[.int .i64 0, .slice none 0 0] 45)); rw [hw1] at H3; rw [hw1]; have H5 : zS w w1 [Blk sb #[.int .i64 (-1), .slice none 0 0] 45, Row 68 8 (.slice none 0 0) 0 (encP.all []), Row 63 10 (.slice none 0 0) 0 (encO.all []), Pool [], zaP qb q.kind q.size q.slide q.late q.agg q.k, zgP rb] := (((H3.pool_nil).row_nil 63 10).row_nil 68 8).pick [4, 0, 1, 2, 5, 3]; have hqbh := zH hqb; clear hw1 hqb hsb hrb H1 H2 H3
 go_upto_block 1 with (fail)
 go_loopw [10, 11, 12, 13, 14, 15, 18] (fun u10 _ _ _ _ _ u18 wr => ∃ (i : Nat) (smk : Int) (O : List Ot) (ms1 : List Pm) (os : List Om) (HH : List (Value × List Int)) (pa : Option Addr) (pc : Nat) (oa : Option Addr) (oc : Nat), i ≤ l.length ∧ u10 = .slice oa os.length oc ∧ u18 = .int .i64 i ∧ Hid (runsM q (l.drop i) ⟨⟨smk, ms1.map (·.p)⟩, O, i, 0⟩ = res) ∧ Hid (os.map (·.o) = O ∧ (∀ m ∈ ms1, Pm.own m ∈ HH) ∧ (∀ y ∈ os, Om.own y ∈ HH) ∧ (q.right = false ∨ Stt.right q ⟨smk, ms1.map (·.p)⟩ = true)) ∧ os.length ≤ 256 * i ∧ zS w wr [zfP sb smk pa ms1.length pc, znP (encP.all ms1) pa ms1.length pc, zlP (encO.all os) oa os.length oc, Pool HH, zaP qb q.kind q.size q.slide q.late q.agg q.k, zgP rb]) (fun _ _ _ _ _ _ u18 _ => l.length - (intOf u18).toNat)
 case atStart => exact ⟨0, -1, [], [], [], [], none, 0, none, 0, Nat.zero_le _, rfl, rfl, zH hresh.out, zH ⟨rfl, fun m hm => (by cases hm), fun y hy => (by cases hy), hq0h.out⟩, by simp, H5⟩
 case round =>
  clear H5; obtain ⟨i, smk, O, ms1, os, HH, pa, pc, oa, oc, hi, rfl, rfl, hrun, hall, hos, HM⟩ := hrel
  by_cases hlt : i < l.length
  · obtain ⟨bi, oi, rfl, hbi, hcx⟩ := hixh.out (by intro e; rw [e] at hlt; simp at hlt)
    obtain ⟨x, hx⟩ : ∃ x, l[i]? = some x := ⟨_, List.getElem?_eq_getElem hlt⟩; have hxf := hifith.out x (List.mem_of_getElem? hx); have hrd := hrdrop.out i x hx ⟨⟨smk, ms1.map (·.p)⟩, O, i, 0⟩; simp only at hrd; obtain ⟨hos1, hmo1, hoo1, hsr⟩ := hall.out; have hst := fun w' hro hG => kst.out smk x (.slice pa ms1.length pc) ms1 HH w' hro hG hmo1 hsr hxf
    have hgd := hgood.out ⟨smk, ms1.map (·.p)⟩ x; have hou := houts.out ⟨smk, ms1.map (·.p)⟩ x; obtain ⟨R, hR⟩ := zNm (stepM q ⟨smk, ms1.map (·.p)⟩ x); simp only [hR] at hst; rw [hR] at hrd hgd hou; have hrdh := zH hrd; have hgdh := zH hgd; have hos1h := zH hos1; have hmo1h := zH hmo1; have hoo1h := zH hoo1; unfold DocOk at hst; obtain ⟨x0, x1, x2, x3⟩ := itm_cells (hcx i x hx) (HM.kept.block bi hbi id); have hi2 : (i : Int) < (l.length : Int) := by omega
    clear hrd hgd hos1 hmo1 hoo1 hsr hR hall hcx hx hxf; obtain ⟨xk, xy, xt, xv⟩ := x; unfold textV at x1; unfold itmV textV at hst; simp only at x0 x1 x2 x3 hst; have hsth := zH hst; clear hst; have HA : zS w _ (_ :: _) := HM.allocAt rfl #[.int .i64 xk, .string ⟨xy.toArray⟩, .int .i64 xt, .int .i64 xv] 56; go_upto_region 5 with (fail)
    obtain ⟨wb, hwb⟩ := zNm (wr.alloc (.cells #[.int .i64 xk, .string ⟨xy.toArray⟩, .int .i64 xt, .int .i64 xv] 56)); obtain ⟨xb, hxb⟩ := zNm wr.heap.size; rw [hwb, hxb] at HA; (try rw [hwb]); (try simp only [hxb]); have HB : zS w wb [zuP xb xk xy.toArray xt xv, zfP sb smk pa ms1.length pc, znP (encP.all ms1) pa ms1.length pc, zlP (encO.all os) oa os.length oc, Pool HH, zaP qb q.kind q.size q.slide q.late q.agg q.k, zgP rb] := HA; clear hwb hxb x0 x1 x2 x3 HM HA; have y0 := HB.cell 0 0 rfl rfl; have y1 := HB.cell 0 1 rfl rfl; have y2 := HB.cell 0 2 rfl rfl; have y3 := HB.cell 0 3 rfl rfl; have s0 := HB.cell 1 0 rfl rfl; have s1 := HB.cell 1 1 rfl rfl; have d0 := HB.cell 5 0 rfl rfl; have d1 := HB.cell 5 1 rfl rfl; have d2 := HB.cell 5 2 rfl rfl; have d3 := HB.cell 5 3 rfl rfl; have d4 := HB.cell 5 4 rfl rfl; have d5 := HB.cell 5 5 rfl rfl; have hst := hsth.out wb (Enc.own encP (HB.row 2 rfl) rfl) (fun y hy => HB.pool_get 4 rfl hy)
    obtain ⟨⟨mk2, ps2⟩, O2, e2⟩ := R; simp only at hrdh hgdh hou hst; have hown : encP.RO wb (.slice pa ms1.length pc) ms1 := Enc.own encP (HB.row 2 rfl) rfl; go_upto_region 6 with (go_at_call 66; go_must (refine hst.mono ?_; rintro e w3 ⟨pv, ov, ms2, os2, H2, rfl, hm2, ho2, hmo2, hoo2, G1⟩; have hm2h := zH hm2; have ho2h := zH ho2; have hmo2h := zH hmo2; have hoo2h := zH hoo2; clear hm2 ho2 hmo2 hoo2; obtain ⟨p2, c2, e9, -, -⟩ := G1.rowO_ro 0 rfl hown; cases e9; obtain ⟨o2, k2, rfl, -, -⟩ := slice_form' (G1.row 1 rfl); have HC0 : zS w w3 [zpP pa ms1.length pc ms1 p2 ms2.length c2 ms2, zlP (encO.all os2) o2 os2.length k2, Pool H2, zuP xb xk xy.toArray xt xv, zfP sb smk pa ms1.length pc, znP (encP.all ms1) pa ms1.length pc, zlP (encO.all os) oa os.length oc, Pool HH, zaP qb q.kind q.size q.slide q.late q.agg q.k, zgP rb] := HB.call0 G1; have HC : zS w _ (_ :: _) := HC0.allocAt rfl #[.int .i64 mk2, .slice p2 ms2.length c2] 45))
    obtain ⟨w4, hw4⟩ := zNm (w3.alloc (.cells #[.int .i64 mk2, .slice p2 ms2.length c2] 45)); obtain ⟨nb, hnb⟩ := zNm w3.heap.size; rw [hw4, hnb] at HC; (try rw [hw4]); (try simp only [hnb]); have HD : zS w w4 [zfP nb mk2 p2 ms2.length c2, zpP pa ms1.length pc ms1 p2 ms2.length c2 ms2, zlP (encO.all os2) o2 os2.length k2, Pool H2, zuP xb xk xy.toArray xt xv, zfP sb smk pa ms1.length pc, znP (encP.all ms1) pa ms1.length pc, zlP (encO.all os) oa os.length oc, Pool HH, zaP qb q.kind q.size q.slide q.late q.agg q.k, zgP rb] := HC; clear hw4 hnb HC0 HC HB G1 y0 y1 y2 y3 s0 s1 d0 d1 d2 d3 d4 d5 hst hown hsth
    by_cases he : e2 = 0
    · subst he; have hrd2 : res = runsM q (l.drop (i + 1)) ⟨⟨mk2, ps2⟩, O ++ O2, i + 1, 0⟩ := by rw [← hrun.out, hrdh.out, if_pos rfl]
      rw [← hm2h.out] at hrd2; have hrd2h := zH hrd2; have hgg := hgdh.out rfl; rw [← hm2h.out] at hgg; have hggh := zH hgg
      have ho2l : os2.length ≤ 256 := by
       have := hou; rw [← ho2h.out, List.length_map] at this; exact this
      clear hrd2 hgg hrdh hgdh hou; have c0 := HD.cell 0 0 rfl rfl; have c1 := HD.cell 0 1 rfl rfl; have r0 := HD.free 5 0 rfl; have r1 := HD.free 5 1 rfl; have z0 := HD.cell 5 0 rfl rfl; have z1 := HD.cell 5 1 rfl rfl; have HE0 := (HD.set 5 rfl 0 (.int .i64 mk2)).set 5 rfl 1 (.slice p2 ms2.length c2); go_upto_region 9 with (fail)
      obtain ⟨w5, hw5⟩ := zNm ((w4.setCell ⟨sb, 0, none⟩ (.int .i64 mk2)).setCell ⟨sb, 1, none⟩ (.slice p2 ms2.length c2)); rw [hw5] at HE0; (try rw [hw5]); have HE : zS w w5 [zfP nb mk2 p2 ms2.length c2, zpP pa ms1.length pc ms1 p2 ms2.length c2 ms2, zlP (encO.all os2) o2 os2.length k2, Pool H2, zuP xb xk xy.toArray xt xv, zfP sb mk2 p2 ms2.length c2, znP (encP.all ms1) pa ms1.length pc, zlP (encO.all os) oa os.length oc, Pool HH, zaP qb q.kind q.size q.slide q.late q.agg q.k, zgP rb] := HE0; clear hw5 HE0 HD c0 c1 r0 r1 z0 z1; have HF0 := St.row_or (HE.pick [1, 6, 2, 3, 5, 7, 8, 9, 10]); have HF1 : zS w w5 [znP (encP.all ms2) p2 ms2.length c2, zlP (encO.all os2) o2 os2.length k2, Pool H2, zfP sb mk2 p2 ms2.length c2, zlP (encO.all os) oa os.length oc, Pool HH, zaP qb q.kind q.size q.slide q.late q.agg q.k, zgP rb] := HF0; have HF : zS w w5 [Pool (H2 ++ HH), znP (encP.all ms2) p2 ms2.length c2, zlP (encO.all os2) o2 os2.length k2, zfP sb mk2 p2 ms2.length c2, zlP (encO.all os) oa os.length oc, zaP qb q.kind q.size q.slide q.late q.agg q.k, zgP rb] := St.pool_join (HF1.pick [2, 5, 0, 1, 3, 4, 6, 7]); clear HE HF0 HF1; obtain ⟨ro1, ro2, ro3, ro4, ro5⟩ := Enc.RO.cells (Enc.own encO (HF.row 2 rfl) rfl); cases ro3; go_upto_region 10 with (at_builtin; go_must (refine St.list_add HF 4 rfl rfl (.tmp 38) (.tmp 39) 46 rfl Tryz.underlying46 Tryz.info63 (by decide) rfl (encO.all os2) rfl (encO.all_len os2) (fun e => by rw [ro4 e]; rfl) (fun ad e j u hj => ro5 ad e j u hj) (encO.all_one1 os2) (by omega) ?_; intro v6 w6 HG0 hz6))
      obtain ⟨na, nc, rfl, -, -⟩ := slice_form' (HG0.row 4 rfl); have HG : zS w w6 [Pool (H2 ++ HH), znP (encP.all ms2) p2 ms2.length c2, zlP (encO.all os2) o2 os2.length k2, zfP sb mk2 p2 ms2.length c2, zbuP (os.length + os2.length) (encO.all os ++ encO.all os2) na nc, zaP qb q.kind q.size q.slide q.late q.agg q.k, zgP rb] := HG0; clear HG0 HF ro4 ro5 hz6; go_wp2; go_roundw
      case rel =>
       refine ⟨i + 1, mk2, O ++ O2, ms2, os ++ os2, H2 ++ HH, p2, c2, na, nc, by omega, by rw [List.length_append], by go_num, zH hrd2h.out.symm, zH ⟨by rw [List.map_append, hos1h.out, ho2h.out], hmo2h.out, ?_, .inr hggh.out⟩, by rw [List.length_append]; omega, ?_⟩
       · intro y hy; rcases List.mem_append.1 hy with hy | hy
         · exact List.mem_append_right _ (hoo1h.out y hy)
         · exact hoo2h.out y hy
       · rw [List.length_append, Enc.all_app]; exact HG.pick [3, 1, 4, 0, 5, 6]
      case measure => simp [intOf]; omega
    · have hrd2 : res = ⟨⟨smk, ms1.map (·.p)⟩, O, i, e2⟩ := by rw [← hrun.out, hrdh.out, if_neg he]
      have hfres := zH hrd2; have he2 : (e2 != 0) = true := by simpa using he
      clear hrd2 hrdh hgdh hou; have s0 := HD.cell 5 0 rfl rfl; have s1 := HD.cell 5 1 rfl rfl; have r0 := HD.free 10 0 rfl; have r1 := HD.free 10 1 rfl; have z0 := HD.cell 10 0 rfl rfl; have z1 := HD.cell 10 1 rfl rfl; have HE := (HD.set 10 rfl 0 (.int .i64 smk)).set 10 rfl 1 (.slice pa ms1.length pc); go_wp2
      try simp only [Exit.inBlock, Exit.then]
      refine bodyPost_ret (results_cttt rfl rfl (blk_range (cs := [.int .i64 smk, .slice pa ms1.length pc]) (HE.blk 10 rfl)) Tryz.underlying45 rfl (by kernel_rfl)) rfl ?_
      rw [hfres.out]; exact ⟨.slice pa ms1.length pc, .slice oa os.length oc, ms1, os, HH, rfl, rfl, hos1h.out, hmo1h.out, hoo1h.out, HE.pick [6, 7, 8]⟩
  · obtain rfl : i = l.length := by omega
    have hres2 : res = ⟨⟨smk, ms1.map (·.p)⟩, O, l.length, 0⟩ := by rw [← hrun.out, List.drop_length]; rfl
    have hfres := zH hres2; obtain ⟨hos1, hmo1, hoo1, -⟩ := hall.out; have hos1h := zH hos1; have hmo1h := zH hmo1; have hoo1h := zH hoo1; clear hres2 hrun hall hos1 hmo1 hoo1; have s0 := HM.cell 0 0 rfl rfl; have s1 := HM.cell 0 1 rfl rfl; have r0 := HM.free 5 0 rfl; have r1 := HM.free 5 1 rfl; have z0 := HM.cell 5 0 rfl rfl; have z1 := HM.cell 5 1 rfl rfl; have HE := (HM.set 5 rfl 0 (.int .i64 smk)).set 5 rfl 1 (.slice pa ms1.length pc); go_wp2
    try simp only [Exit.inBlock, Exit.then]
    refine bodyPost_ret (results_cttt rfl rfl (blk_range (cs := [.int .i64 smk, .slice pa ms1.length pc]) (HE.blk 5 rfl)) Tryz.underlying45 rfl (by kernel_rfl)) rfl ?_
    rw [hfres.out]; exact ⟨.slice pa ms1.length pc, .slice oa os.length oc, ms1, os, HH, rfl, rfl, hos1h.out, hmo1h.out, hoo1h.out, HE.pick [1, 2, 3]⟩
end Go.Proofs.YtiglgfonhdfpmaaGreat
namespace Go.Proofs.YtiglgfonhdfpmaaGreat
open Go.RowKit
def edgesBack (k : Nat) (o : Oper) : Bool := o.after.toList.all fun e => !Region.binds .any e || decide (e.on < k)
def pairOk (ops : Array Oper) (i : Nat) (oi oj : Oper) : Bool := oi.apart ops oj || oj.after.toList.any (fun e => Region.binds .any e && e.on == i)
def lexGo (ops : Array Oper) : Nat → List Oper → Bool
 | _, [] => true
 | k, o :: r => edgesBack k o && r.all (fun oj => pairOk ops k o oj) && lexGo ops (k + 1) r
def lexFast (l : List Oper) : Bool := Region.noSelect l.toArray && lexGo l.toArray 0 l
theorem lexGo_from {ops : Array Oper} : ∀ (r : List Oper) (k : Nat) (listed : Array Bool), (∀ j, r[j]? = ops[k + j]?) → k + r.length = ops.size → listed.size = ops.size → (∀ (j : Nat) (h : j < listed.size), listed[j] = decide (j < k)) → lexGo ops k r = true → Region.lexFrom .any ops r.length k listed = true
 | [], k, listed, _, hk, hs, hl, _ => by
  simp only [List.length_nil, Nat.add_zero] at hk; simp only [List.length_nil, Region.lexFrom]; rw [List.isEmpty_iff]; refine List.eq_nil_iff_forall_not_mem.2 (fun j hj => ?_)
  obtain ⟨h1, o, h2, -⟩ := mem_ready.1 hj; have hlt := (Array.getElem?_eq_some_iff.1 h2).1; rw [Array.getD_eq_getD_getElem?, Array.getElem?_eq_getElem (by omega)] at h1
  simp only [Option.getD_some, hl, decide_eq_false_iff_not] at h1
  omega
 | o :: r, k, listed, hr, hk, hs, hl, h => by
  simp only [lexGo, Bool.and_eq_true] at h; obtain ⟨⟨h1, h2⟩, h3⟩ := h; have h0 : ops[k]? = some o := by simpa using (hr 0).symm
  have hklt := (Array.getElem?_eq_some_iff.1 h0).1; simp only [List.length_cons, Region.lexFrom, Bool.and_eq_true]; refine ⟨⟨?_, ?_⟩, ?_⟩
  · rw [List.contains_iff_mem]; refine mem_ready.2 ⟨?_, o, h0, fun e he hb => ?_⟩
    · rw [Array.getD_eq_getD_getElem?, Array.getElem?_eq_getElem (by omega)]
      simp [hl]
    · have := List.all_eq_true.1 h1 e (by simpa using he)
      rw [hb] at this; simp only [Bool.not_true, Bool.false_or, decide_eq_true_eq] at this; rw [Array.getD_eq_getD_getElem?, Array.getElem?_eq_getElem (by omega)]
      simp [hl, this]
  · unfold Region.free; rw [h0]; simp only [List.all_eq_true, List.mem_range]; intro j hj
    by_cases e1 : j = k
    · simp [e1]
    · by_cases e2 : j < k
      · have : listed.getD j true = true := by
         rw [Array.getD_eq_getD_getElem?, Array.getElem?_eq_getElem (by omega)]
         simp [hl, e2]
        simp [this]
      · obtain ⟨oj, hoj⟩ : ∃ oj, ops[j]? = some oj := ⟨_, Array.getElem?_eq_getElem hj⟩
        have hm : r[j - k - 1]? = some oj := by
         have := hr (j - k - 1 + 1); rw [show k + (j - k - 1 + 1) = j by omega, hoj] at this
         simpa using this
        have := List.all_eq_true.1 h2 oj (List.mem_of_getElem? hm); unfold pairOk at this; rw [hoj]; simp only [Bool.or_eq_true] at this ⊢; rcases this with this | this
        · exact .inr (.inr this)
        · exact .inr (.inl (by rw [← Array.any_toList]; exact this))
  · refine lexGo_from r (k + 1) _ (fun j => ?_) (by simp only [List.length_cons] at hk; omega) (by simp [hs]) (fun j hj => ?_) h3
    · have := hr (j + 1); rw [show k + 1 + j = k + (j + 1) by omega, ← this]
      simp
    · simp only [Array.size_setIfInBounds] at hj; rw [Array.getElem_setIfInBounds hj]
      by_cases e : k = j
      · simp [e]
      · rw [if_neg e, hl]
        by_cases e2 : j < k
        · simp [e2, show j < k + 1 by omega]
        · simp [e2, show ¬ j < k + 1 by omega]
theorem lexB_fast {l : List Oper} (h : lexFast l = true) : Region.lexB .any l.toArray = true := by
 unfold lexFast at h; simp only [Bool.and_eq_true] at h; unfold Region.lexB; rw [h.1, Bool.true_and]; have := lexGo_from (ops := l.toArray) l 0 (Array.replicate l.toArray.size false) (by simp) (by simp) (by simp) (by simp) h.2
 simpa using this
section
variable {P : Program}
theorem wp_calmF {id : Nat} {Q : Exit → Act → World → Prop} {a : Act} {w : World} {l : List Oper} (I : World → Prop) (hm : P.follows .mixedOrders = true) (hB : lexFast l = true) (h0 : I w.drew)
    (h : Calm P l.toArray I (fun a' => ∀ w', I w' → Q .normal a' w') l a) : (Code.region id l.toArray true).wp P Q a w := wp_calm I hm (lexB_fast hB) h0 h
end
end Go.Proofs.YtiglgfonhdfpmaaGreat
