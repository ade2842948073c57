import Derived.Test.YtiglgfonhdfpmaaGreatOr14
/- oper.Step. Conditions: the state and the item fit the machine; so many. (Printed by a program of mine.) -/
set_option linter.unusedVariables false
set_option linter.unusedSimpArgs false
set_option maxHeartbeats 16000000
set_option maxRecDepth 100000
namespace Go.Proofs.YtiglgfonhdfpmaaGreat
open Go.RowKit
theorem results_ctt {P : Program} {fn : Func} {t b1 c1 : Tmp} {ty : TypeId} (h : fn.results = #[.cell t ty, .tmp b1, .tmp c1]) {tmps : Array Value} {w : World} {b : Nat} {cs : List Value} {d : TypeDesc} (ht : tmps.getD t undef = .pointer (some ⟨b, 0, none⟩)) (hr : w.rangeAt b 0 cs)
    (hu : P.underlying ty = some d) (hd : d.isRow = true) (hi : (P.info? ty).map (·.size) = some cs.length) : (results fn tmps).run P w = .ok (.tuple #[.agg cs.toArray, tmps.getD b1 undef, tmps.getD c1 undef]) w := by
 have h2 := run_loadVar_mid (P := P) w b 0 ty cs d hr hu hd hi; have h3 : tmps[t]?.getD undef = .pointer (some ⟨b, 0, none⟩) := by simpa using ht
 simp [results, h, h3, asAddr, h2]
def StepOk (S : Nat → Prop) (w : World) (r : StepR) (e : Ending) (w' : World) : Prop :=
 ∃ hs ho ms os H, e = .returned (.tuple #[.agg #[.int .i64 r.s.mark, hs], ho, .int .i64 r.e]) ∧ ms.map (·.p) = r.s.panes ∧ os.map (·.o) = r.outs ∧ (∀ m ∈ ms, Pm.own m ∈ H) ∧ (∀ y ∈ os, Om.own y ∈ H) ∧
  St S w w' [zbgP (encP.all ms) hs ms.length, zsP (encO.all os) ho os.length, Pool H]
abbrev zgP (a0) := (Blk a0 #[.int .i64 0, .slice none 0 0] 45 : SP)
abbrev zlP (a0) (a1) (a2) (a3) := (Row 63 10 (.slice a1 a2 a3) a2 a0 : SP)
abbrev zuP (a0) (a1) (a2) (a3) (a4) := (Blk a0 #[.int .i64 a1, .string ⟨a2⟩, .int .i64 a3, .int .i64 a4] 56 : SP)
abbrev zchP (a0) (a1) (a2) (a3) := (Blk a0 #[.int .i64 2, .string ⟨a1⟩, .int .i64 a2, .int .i64 a3] 56 : SP)
theorem oper_step (q : Qry) (s : Stt) (x : Itm) {v : Value} (w : World) (hv : PnsRO w v s.panes) (hl : s.panes.length ≤ 1073741824) (hf : ∀ p ∈ s.panes, p.fits) (hx : x.fits) :
    Calls Tryz.prog 27 #[qyV q, .agg #[.int .i64 s.mark, v], itmV x] w fun e w' => StepOk (fun _ => False) w (stepM q s x) e w' := by
 obtain ⟨mk, l⟩ := s; simp only at hv hl hf; have kc := fun w' (hk : Kept (fun _ => False) w w') => oper_copied (hv.later hk) hl (fun p hp => (hf p hp).2.1)
 have krg := fun w' (hk : Kept (fun _ => False) w w') => oper_right q ⟨mk, l⟩ w' (hv.later hk) hl hf
 have kev := fun w' => ev_right x hx w'
 have kst := zH (fun (h : x.right = true) => h)
 obtain ⟨ms0, hm0, hv0, -⟩ := hv; obtain ⟨va, vc, rfl, -, -⟩ := hv0; have e0 : ms0.length = l.length := by rw [← hm0, List.length_map]
 rw [e0] at kc krg ⊢; clear hm0 e0 hf
 have hstep : stepM q ⟨mk, l⟩ x = if (Stt.right q ⟨mk, l⟩ && x.right) = true then (if x.kind = 2 then ⟨(markM q ⟨mk, l⟩ x.time).1, (markM q ⟨mk, l⟩ x.time).2, 0⟩ else eventM q ⟨mk, l⟩ x) else ⟨⟨mk, l⟩, [], 2⟩ := rfl
 have kmk := zH (fun (h : Stt.right q ⟨mk, l⟩ = true) (t : Nat) w' S' (hS : Sep w' [Stp t q mk l []] S') => step_mark (at1 := x.time) h (by simp) hS)
 have kvt := zH (fun (h : Stt.right q ⟨mk, l⟩ = true) (h2 : x.right = true) (h3 : x.kind = 1) (t : Nat) w' S' (hS : Sep w' [Stp t q mk l []] S') => step_event h h2 h3 (by simp) hS)
 have hkind : x.right = true → ¬ x.kind = 2 → x.kind = 1 := fun h h2 => by
  unfold Itm.right at h; simp only [Bool.and_eq_true] at h; refine Classical.byContradiction fun h3 => ?_
  rw [if_neg h3, if_neg h2] at h
  simp at h
 have hkindh := zH hkind; obtain ⟨res, hres⟩ := zNm (stepM q ⟨mk, l⟩ x); rw [hres] at hstep ⊢; have hsteph := zH hstep; obtain ⟨sr, hsr⟩ := zNm (Stt.right q ⟨mk, l⟩); obtain ⟨xr, hxr⟩ := zNm x.right; simp only [hsr] at krg; simp only [hxr] at kev; have hsrh := zH hsr; have hxrh := zH hxr; clear hstep hkind hsr hxr hres kst; obtain ⟨xx, hxx⟩ : ∃ z, z = x := ⟨_, rfl⟩; have hxxh := zH hxx; obtain ⟨xk, xy, xt, xv⟩ := x; unfold itmV textV at kev; unfold qyV qyC at krg; unfold qyV qyC itmV textV; simp only at kev krg ⊢; have H1 : zS w _ [_] := (St.nil _ w).allocAt rfl #[.int .i64 q.kind, .int .i64 q.size, .int .i64 q.slide, .int .i64 q.late, .int .i64 q.agg, .int .i64 q.k] 23; have H2 : zS w _ [_, _] := H1.allocAt (B := w.heap.size + 1) (Array.size_push _) #[.int .i64 mk, .slice va l.length vc] 45; have H3 : zS w _ [_, _, _] := H2.allocAt (B := w.heap.size + 1 + 1) (by simp [Array.size_push]) #[.int .i64 xk, .string ⟨xy.toArray⟩, .int .i64 xt, .int .i64 xv] 56
 have H4 : zS w _ [_, _, _, _] := H3.allocAt (B := w.heap.size + 1 + 1 + 1) (by simp [Array.size_push]) #[.int .i64 0, .slice none 0 0] 45
 go_enter Tryz.func27, Tryz.ntmps27
 go_upto_region 1 with (fail)
 obtain ⟨bq, hbq⟩ := zNm w.heap.size; obtain ⟨bs, hbs⟩ := zNm (bq + 1); obtain ⟨bx, hbx⟩ := zNm (bs + 1); obtain ⟨br, hbr⟩ := zNm (bx + 1); simp only [hbq, hbs, hbx, hbr] at H4 ⊢; obtain ⟨w1, hw1⟩ := zNm ((((w.alloc (.cells #[.int .i64 q.kind, .int .i64 q.size, .int .i64 q.slide, .int .i64 q.late, .int .i64 q.agg, .int .i64 q.k] 23)).alloc (.cells #[.int .i64 mk, .slice va l.length vc] 45)).alloc (.cells #[.int .i64 xk, .string ⟨xy.toArray⟩, .int .i64 xt, .int .i64 xv] 56)).alloc (.cells #[.int .i64 0, .slice none 0 0] 45)); rw [hw1] at H4; rw [hw1]; have H5 : zS w w1 [zaP bq q.kind q.size q.slide q.late q.agg q.k, zfP bs mk va l.length vc, zuP bx xk xy.toArray xt xv, zgP br] := H4.pick [3, 2, 1, 0]; have hbqh := zH hbq; clear hw1 hbq hbs hbx hbr H1 H2 H3 H4
 go_cut [9] from 12 to 17 (fun p9 wx => ∃ (bw : Nat) (ca : Option Addr) (cc : Nat) (ms : List Pm), p9 = .pointer (some ⟨bw, 0, none⟩) ∧ Hid (ms.map (·.p) = l) ∧ zS w wx [znP (encP.all ms) ca ms.length cc, Pool (ms.map Pm.own), zfP bw mk ca ms.length cc, zaP bq q.kind q.size q.slide q.late q.agg q.k, zfP bs mk va l.length vc, zuP bx xk xy.toArray xt xv, zgP br])
 case first =>
  refine wp_plan (.small 0 (.small 1 (.small 2 (.small 3 (.fork 4 6 (.small 5 (.alone 6 (.alone 7 .nil))) (.alone 4 (.small 5 (.alone 7 .nil)))))))) (Fam fun w' => zS w w' [zfP bs mk va l.length vc]) (fun w' => zS w w' [zaP bq q.kind q.size q.slide q.late q.agg q.k, zfP bs mk va l.length vc, zuP bx xk xy.toArray xt xv, zgP br]) (by kernel_rfl) (by rfl) (by kernel_rfl) (by kernel_rfl) H5.drew (Fam.st (fun _ h => h.pick [1])) ?_
  iterate 4 first | (apply plan_pass; rfl; rfl; intro K hK; go_simp; refine hK _ ?_; clear hK K) | (apply plan_step; rfl; rfl; (focus (intro I hI w1 h1'; have h1 := hI.2 _ h1'; have c0 := h1.cell 0 0 rfl rfl; have c1 := h1.cell 0 1 rfl rfl; first | (go_simp; first | rfl | exact ⟨rfl, h1'⟩))); intro K hK; go_simp; refine hK _ ?_; clear hK K)
  refine plan_two rfl rfl rfl rfl ?_ ?_
  · skip
    intro V hV w1 h1
    go_simp
    refine (kc w1 h1.kept).mono ?_; rintro e w2 ⟨cv, ms, rfl, hms, G1⟩; have hmsh := zH hms; clear hms; obtain ⟨ca, cc, rfl, -, -⟩ := slice_form' (G1.row 0 rfl); have HX : zS w w2 [znP (encP.all ms) ca ms.length cc, Pool (ms.map Pm.own), zaP bq q.kind q.size q.slide q.late q.agg q.k, zfP bs mk va l.length vc, zuP bx xk xy.toArray xt xv, zgP br] := h1.call0 G1; refine ⟨_, rfl, fun w' => zS w w' [znP (encP.all ms) ca ms.length cc, Pool (ms.map Pm.own), zaP bq q.kind q.size q.slide q.late q.agg q.k, zfP bs mk va l.length vc, zuP bx xk xy.toArray xt xv, zgP br], hV _ _ _ (fun _ h => h) (Fam.st (fun _ h => h.pick [3])) ?_, HX⟩
    intro K hK
    go_simp
    refine hK _ ?_; clear hK K hV V; clear HX h1 G1 w1 w2
    iterate 1 first | (apply plan_pass; rfl; rfl; intro K hK; go_simp; refine hK _ ?_; clear hK K) | (apply plan_step; rfl; rfl; (focus (intro I hI w1 h1'; have h1 := hI.2 _ h1'; first | (go_simp; first | rfl | exact ⟨rfl, h1'⟩))); intro K hK; go_simp; refine hK _ ?_; clear hK K)
    refine plan_one rfl rfl ?_; intro V hV w1 h1
    go_simp
    obtain ⟨bw, hbw⟩ := zNm w1.heap.size; have HX : zS w _ [zgP bw, znP (encP.all ms) ca ms.length cc, Pool (ms.map Pm.own), zaP bq q.kind q.size q.slide q.late q.agg q.k, zfP bs mk va l.length vc, zuP bx xk xy.toArray xt xv, zgP br] := h1.allocAt hbw #[.int .i64 0, .slice none 0 0] 45; simp only [hbw]; refine ⟨fun w' => zS w w' [zgP bw, znP (encP.all ms) ca ms.length cc, Pool (ms.map Pm.own), zaP bq q.kind q.size q.slide q.late q.agg q.k, zfP bs mk va l.length vc, zuP bx xk xy.toArray xt xv, zgP br], hV _ _ _ (fun _ h => h) (Fam.st (fun _ h => h.pick [4])) ?_, HX⟩
    intro K hK
    go_simp
    refine hK _ ?_; clear hK K hV V; clear HX h1 hbw w1; refine plan_one rfl rfl ?_; intro V hV w1 h1; have r0 := h1.free 0 0 rfl; have r1 := h1.free 0 1 rfl; have x0 := h1.cell 0 0 rfl rfl; have x1 := h1.cell 0 1 rfl rfl; have H5 := (h1.set 0 rfl 0 (.int .i64 mk)).set 0 rfl 1 (.slice ca ms.length cc)
    go_simp
    refine ⟨fun w' => zS w w' [zfP bw mk ca ms.length cc, znP (encP.all ms) ca ms.length cc, Pool (ms.map Pm.own), zaP bq q.kind q.size q.slide q.late q.agg q.k, zfP bs mk va l.length vc, zuP bx xk xy.toArray xt xv, zgP br], hV _ _ _ (fun _ h => h) (Fam.st (fun _ h => h.pick [4])) ?_, H5⟩
    intro K hK
    go_simp
    refine hK _ ?_; clear hK K hV V; clear H5 h1 w1 r0 r1 x0 x1; refine plan_nil ?_; intro w9 H9; go_wp2; go_meet; exact ⟨bw, ca, cc, ms, rfl, hmsh, H9.pick [1, 2, 0, 3, 4, 5, 6]⟩
  · skip
    intro V hV w1 h1
    go_simp
    obtain ⟨bw, hbw⟩ := zNm w1.heap.size; have HX : zS w _ [zgP bw, zaP bq q.kind q.size q.slide q.late q.agg q.k, zfP bs mk va l.length vc, zuP bx xk xy.toArray xt xv, zgP br] := h1.allocAt hbw #[.int .i64 0, .slice none 0 0] 45; simp only [hbw]; refine ⟨fun w' => zS w w' [zgP bw, zaP bq q.kind q.size q.slide q.late q.agg q.k, zfP bs mk va l.length vc, zuP bx xk xy.toArray xt xv, zgP br], hV _ _ _ (fun _ h => h) (Fam.st (fun _ h => h.pick [2])) ?_, HX⟩
    intro K hK
    go_simp
    refine hK _ ?_; clear hK K hV V; clear HX h1 hbw w1; refine plan_one rfl rfl ?_; intro V hV w1 h1
    go_simp
    refine (kc w1 h1.kept).mono ?_; rintro e w2 ⟨cv, ms, rfl, hms, G1⟩; have hmsh := zH hms; clear hms; obtain ⟨ca, cc, rfl, -, -⟩ := slice_form' (G1.row 0 rfl); have HX : zS w w2 [znP (encP.all ms) ca ms.length cc, Pool (ms.map Pm.own), zgP bw, zaP bq q.kind q.size q.slide q.late q.agg q.k, zfP bs mk va l.length vc, zuP bx xk xy.toArray xt xv, zgP br] := h1.call0 G1; refine ⟨_, rfl, fun w' => zS w w' [znP (encP.all ms) ca ms.length cc, Pool (ms.map Pm.own), zgP bw, zaP bq q.kind q.size q.slide q.late q.agg q.k, zfP bs mk va l.length vc, zuP bx xk xy.toArray xt xv, zgP br], hV _ _ _ (fun _ h => h) (Fam.st (fun _ h => h.pick [4])) ?_, HX⟩
    intro K hK
    go_simp
    refine hK _ ?_; clear hK K hV V; clear HX h1 G1 w1 w2
    iterate 1 first | (apply plan_pass; rfl; rfl; intro K hK; go_simp; refine hK _ ?_; clear hK K) | (apply plan_step; rfl; rfl; (focus (intro I hI w1 h1'; have h1 := hI.2 _ h1'; first | (go_simp; first | rfl | exact ⟨rfl, h1'⟩))); intro K hK; go_simp; refine hK _ ?_; clear hK K)
    refine plan_one rfl rfl ?_; intro V hV w1 h1; have r0 := h1.free 2 0 rfl; have r1 := h1.free 2 1 rfl; have x0 := h1.cell 2 0 rfl rfl; have x1 := h1.cell 2 1 rfl rfl; have H5 := (h1.set 2 rfl 0 (.int .i64 mk)).set 2 rfl 1 (.slice ca ms.length cc)
    go_simp
    refine ⟨fun w' => zS w w' [znP (encP.all ms) ca ms.length cc, Pool (ms.map Pm.own), zfP bw mk ca ms.length cc, zaP bq q.kind q.size q.slide q.late q.agg q.k, zfP bs mk va l.length vc, zuP bx xk xy.toArray xt xv, zgP br], hV _ _ _ (fun _ h => h) (Fam.st (fun _ h => h.pick [4])) ?_, H5⟩
    intro K hK
    go_simp
    refine hK _ ?_; clear hK K hV V; clear H5 h1 w1 r0 r1 x0 x1; refine plan_nil ?_; intro w9 H9; go_wp2; go_meet; exact ⟨bw, ca, cc, ms, rfl, hmsh, H9⟩
 case rest =>
  obtain ⟨bw, ca, cc, ms, rfl, hmsh, HC⟩ := hcut; clear H5; have d0 := HC.cell 3 0 rfl rfl; have d1 := HC.cell 3 1 rfl rfl; have d2 := HC.cell 3 2 rfl rfl; have d3 := HC.cell 3 3 rfl rfl; have d4 := HC.cell 3 4 rfl rfl; have d5 := HC.cell 3 5 rfl rfl; have s0 := HC.cell 4 0 rfl rfl; have s1 := HC.cell 4 1 rfl rfl
  have hcc : (sr = false ∨ (sr = true ∧ xr = false)) ∨ (sr = true ∧ xr = true) := by cases sr <;> cases xr <;> simp
  rcases hcc with hbad | ⟨rfl, rfl⟩
  · have hfr : res = ⟨⟨mk, l⟩, [], 2⟩ := by
     rw [hsteph.out, hsrh.out, hxrh.out, if_neg (by rcases hbad with h | h <;> simp [h])]
    have hfres := zH hfr; clear hfr hsteph kmk kvt hkindh; rcases hbad with rfl | ⟨rfl, rfl⟩
    all_goals
     go_upto_region 3 with (first
      | (go_at_call 29; go_must (refine (St.callPast (krg _ HC.kept) HC).mono ?_; rintro e w3 ⟨rfl, H6⟩; have i0 := H6.cell 5 0 rfl rfl; have i1 := H6.cell 5 1 rfl rfl; have i2 := H6.cell 5 2 rfl rfl; have i3 := H6.cell 5 3 rfl rfl))
      | (go_at_call 71; go_must (refine (St.callPast (kev _) H6).mono ?_; rintro e w4 ⟨rfl, H7⟩)))
    · skip
      have y0 := H6.cell 2 0 rfl rfl; have y1 := H6.cell 2 1 rfl rfl; have x0 := H6.cell 6 0 rfl rfl; have x1 := H6.cell 6 1 rfl rfl; have r0 := H6.free 6 0 rfl; have r1 := H6.free 6 1 rfl; have H8 := (H6.set 6 rfl 0 (.int .i64 mk)).set 6 rfl 1 (.slice ca ms.length cc); go_wp2
      try simp only [Exit.inBlock, Exit.then]
      refine bodyPost_ret (results_ctt rfl rfl (blk_range (cs := [.int .i64 mk, .slice ca ms.length cc]) (H8.blk 6 rfl)) Tryz.underlying45 rfl (by kernel_rfl)) rfl ?_
      rw [hfres.out]; exact ⟨.slice ca ms.length cc, .slice none 0 0, ms, [], ms.map Pm.own, rfl, hmsh.out, rfl, fun m hm => List.mem_map_of_mem hm, (fun y hy => by cases hy), (H8.row_nil 63 10).pick [1, 0, 2]⟩
    · skip
      have y0 := H7.cell 2 0 rfl rfl; have y1 := H7.cell 2 1 rfl rfl; have x0 := H7.cell 6 0 rfl rfl; have x1 := H7.cell 6 1 rfl rfl; have r0 := H7.free 6 0 rfl; have r1 := H7.free 6 1 rfl; have H8 := (H7.set 6 rfl 0 (.int .i64 mk)).set 6 rfl 1 (.slice ca ms.length cc); go_wp2
      try simp only [Exit.inBlock, Exit.then]
      refine bodyPost_ret (results_ctt rfl rfl (blk_range (cs := [.int .i64 mk, .slice ca ms.length cc]) (H8.blk 6 rfl)) Tryz.underlying45 rfl (by kernel_rfl)) rfl ?_
      rw [hfres.out]; exact ⟨.slice ca ms.length cc, .slice none 0 0, ms, [], ms.map Pm.own, rfl, hmsh.out, rfl, fun m hm => List.mem_map_of_mem hm, (fun y hy => by cases hy), (H8.row_nil 63 10).pick [1, 0, 2]⟩
  · go_upto_region 4 with (first
     | (go_at_call 29; go_must (refine (St.callPast (krg _ HC.kept) HC).mono ?_; rintro e w3 ⟨rfl, H6⟩; have i0 := H6.cell 5 0 rfl rfl; have i1 := H6.cell 5 1 rfl rfl; have i2 := H6.cell 5 2 rfl rfl; have i3 := H6.cell 5 3 rfl rfl))
     | (go_at_call 71; go_must (refine (St.callPast (kev _) H6).mono ?_; rintro e w4 ⟨rfl, H7⟩)))
    clear H6 HC d0 d1 d2 d3 d4 d5 s0 s1 i0 i1 i2 i3 krg kev; refine wp_script [(0, false), (1, false), (2, false), (3, false), (4, false), (5, true), (6, false), (7, false), (8, true), (9, false)] (Fam fun w' => zS w w' [zaP bq q.kind q.size q.slide q.late q.agg q.k, zfP bs mk va l.length vc]) (fun w' => zS w w' [znP (encP.all ms) ca ms.length cc, Pool (ms.map Pm.own), zfP bw mk ca ms.length cc, zaP bq q.kind q.size q.slide q.late q.agg q.k, zfP bs mk va l.length vc, zuP bx xk xy.toArray xt xv, zgP br]) (by kernel_rfl) (by rfl) (by kernel_rfl) (by kernel_rfl) H7.drew (Fam.st (fun _ h => h.pick [3, 4])) ?_
    iterate 5 first | (apply script_pass; rfl; rfl; intro K hK; go_simp; refine hK _ ?_; clear hK K) | (apply script_step; rfl; rfl; (focus (intro I hI w1 h1'; have h1 := hI.2 _ h1'; have d0 := h1.cell 0 0 rfl rfl; have d1 := h1.cell 0 1 rfl rfl; have d2 := h1.cell 0 2 rfl rfl; have d3 := h1.cell 0 3 rfl rfl; have d4 := h1.cell 0 4 rfl rfl; have d5 := h1.cell 0 5 rfl rfl; have s0 := h1.cell 1 0 rfl rfl; have s1 := h1.cell 1 1 rfl rfl; first | (go_simp; first | rfl | exact ⟨rfl, h1'⟩))); intro K hK; go_simp; refine hK _ ?_; clear hK K)
    refine script_alone rfl rfl ?_; intro V hV w1 h1
    go_simp
    refine (kc w1 h1.kept).mono ?_; rintro e w2 ⟨cv, ms3, rfl, hms3, G1⟩; have hms3h := zH hms3; clear hms3; obtain ⟨ca2, cc2, rfl, -, -⟩ := slice_form' (G1.row 0 rfl); have HX : zS w w2 [znP (encP.all ms3) ca2 ms3.length cc2, Pool (ms3.map Pm.own), znP (encP.all ms) ca ms.length cc, Pool (ms.map Pm.own), zfP bw mk ca ms.length cc, zaP bq q.kind q.size q.slide q.late q.agg q.k, zfP bs mk va l.length vc, zuP bx xk xy.toArray xt xv, zgP br] := h1.call0 G1; refine ⟨_, rfl, fun w' => zS w w' [znP (encP.all ms3) ca2 ms3.length cc2, Pool (ms3.map Pm.own), znP (encP.all ms) ca ms.length cc, Pool (ms.map Pm.own), zfP bw mk ca ms.length cc, zaP bq q.kind q.size q.slide q.late q.agg q.k, zfP bs mk va l.length vc, zuP bx xk xy.toArray xt xv, zgP br], hV _ _ _ (fun _ h => h) (Fam.st (fun _ h => h.pick [5, 6])) ?_, HX⟩
    intro K hK
    go_simp
    refine hK _ ?_; clear hK K hV V; clear HX h1 G1 w1 w2
    iterate 2 first | (apply script_pass; rfl; rfl; intro K hK; go_simp; refine hK _ ?_; clear hK K) | (apply script_step; rfl; rfl; (focus (intro I hI w1 h1'; have h1 := hI.2 _ h1'; first | (go_simp; first | rfl | exact ⟨rfl, h1'⟩))); intro K hK; go_simp; refine hK _ ?_; clear hK K)
    refine script_alone rfl rfl ?_; intro V hV w1 h1
    go_simp
    obtain ⟨bt, hbt⟩ := zNm w1.heap.size; have HX : zS w _ [Blk bt (stC q mk (.slice ca2 ms3.length cc2) (.slice none 0 0)) 137, znP (encP.all ms3) ca2 ms3.length cc2, Pool (ms3.map Pm.own), znP (encP.all ms) ca ms.length cc, Pool (ms.map Pm.own), zfP bw mk ca ms.length cc, zaP bq q.kind q.size q.slide q.late q.agg q.k, zfP bs mk va l.length vc, zuP bx xk xy.toArray xt xv, zgP br] := h1.allocAt hbt (stC q mk (.slice ca2 ms3.length cc2) (.slice none 0 0)) 137; simp only [hbt]; refine ⟨fun w' => zS w w' [Blk bt (stC q mk (.slice ca2 ms3.length cc2) (.slice none 0 0)) 137, znP (encP.all ms3) ca2 ms3.length cc2, Pool (ms3.map Pm.own), znP (encP.all ms) ca ms.length cc, Pool (ms.map Pm.own), zfP bw mk ca ms.length cc, zaP bq q.kind q.size q.slide q.late q.agg q.k, zfP bs mk va l.length vc, zuP bx xk xy.toArray xt xv, zgP br], hV _ _ _ (fun _ h => h) (Fam.st (fun _ h => h.pick [6, 7])) ?_, HX⟩
    intro K hK
    go_simp
    refine hK _ ?_; clear hK K hV V; clear HX h1 hbt w1
    iterate 1 first | (apply script_pass; rfl; rfl; intro K hK; go_simp; refine hK _ ?_; clear hK K) | (apply script_step; rfl; rfl; (focus (intro I hI w1 h1'; have h1 := hI.2 _ h1'; first | (go_simp; first | rfl | exact ⟨rfl, h1'⟩))); intro K hK; go_simp; refine hK _ ?_; clear hK K)
    refine script_nil ?_; intro w5 H8; have H9 : zS w w5 [Blk bt (stC q mk (.slice ca2 ms3.length cc2) (.slice none 0 0)) 137, znP (encP.all ms3) ca2 ms3.length cc2, Row 63 10 (.slice none 0 0) 0 (encO.all []), Pool (ms3.map Pm.own), znP (encP.all ms) ca ms.length cc, Pool (ms.map Pm.own), zfP bw mk ca ms.length cc, zaP bq q.kind q.size q.slide q.late q.agg q.k, zfP bs mk va l.length vc, zuP bx xk xy.toArray xt xv, zgP br] := (H8.row_nil 63 10).pick [1, 2, 0, 3, 4, 5, 6, 7, 8, 9, 10]; have hms3h := (by assumption : Hid (ms3.map (·.p) = l))
    have HS := Stp.mk' (q := q) (mk := mk) (l := l) (o := []) (os := []) hms3h.out rfl (fun m hm => List.mem_map_of_mem hm) (fun y hy => by cases hy) H9
    have HS : zS w w5 [Stp bt q mk l [], znP (encP.all ms) ca ms.length cc, Pool (ms.map Pm.own), zfP bw mk ca ms.length cc, zaP bq q.kind q.size q.slide q.late q.agg q.k, zfP bs mk va l.length vc, zuP bx xk xy.toArray xt xv, zgP br] := HS; clear H7 H8 H9 kc; have i0 := HS.cell 6 0 rfl rfl; have i1 := HS.cell 6 1 rfl rfl; have i2 := HS.cell 6 2 rfl rfl; have i3 := HS.cell 6 3 rfl rfl; obtain ⟨S1, K1, G1⟩ := St.call (l1 := [_]) (l2 := [_, _, _, _, _, _, _]) HS
    by_cases hk2 : xk = 2
    · subst hk2
      have hfr : res = ⟨(markM q ⟨mk, l⟩ xt).1, (markM q ⟨mk, l⟩ xt).2, 0⟩ := by
       rw [hsteph.out, hsrh.out, hxrh.out]
       rfl
      have hfres := zH hfr; have km := kmk.out hsrh.out bt w5 S1 K1; simp only [List.nil_append] at km; obtain ⟨MM, hMM⟩ := zNm (markM q ⟨mk, l⟩ xt); rw [hMM] at hfres; simp only [hMM] at km; clear hMM; obtain ⟨⟨MK1, L1⟩, O1⟩ := MM; (try simp only at km); (try simp only at hfres); clear hfr hsteph kmk kvt hkindh HS K1; go_upto_region 10 with (go_at_call 72; go_must (refine km.mono ?_; rintro e w6 ⟨rfl, H10⟩))
      have H11 : zS w w6 [Stp bt q MK1 L1 O1, znP (encP.all ms) ca ms.length cc, Pool (ms.map Pm.own), zfP bw mk ca ms.length cc, zaP bq q.kind q.size q.slide q.late q.agg q.k, zfP bs mk va l.length vc, zchP bx xy.toArray xt xv, zgP br] := G1 _ _ H10; clear H10 G1 km i0 i1 i2 i3; obtain ⟨pv, ov, ms2, os2, HH, hml2, hol2, hmo2, hoo2, HO⟩ := Stp.open H11; have hml2h := zH hml2; have hol2h := zH hol2; have hmo2h := zH hmo2; have hoo2h := zH hoo2; clear hml2 hol2 hmo2 hoo2 H11; obtain ⟨pa, pc, rfl, -, -⟩ := slice_form' (HO.row 1 rfl); obtain ⟨oa, oc, rfl, -, -⟩ := slice_form' (HO.row 2 rfl); have HO2 : zS w _ [zgP br, Blk bt (stC q MK1 (.slice pa ms2.length pc) (.slice oa os2.length oc)) 137, znP (encP.all ms2) pa ms2.length pc, zlP (encO.all os2) oa os2.length oc, Pool HH] := HO.pick [10, 0, 1, 2, 3]; clear HO; go_upto_region 10 with (fail)
      refine wp_script [(0, false), (1, false), (2, false), (3, false), (4, false), (5, false), (6, false), (7, false), (8, true), (9, false), (10, false)] (Fam fun w' => zS w w' [Blk bt (stC q MK1 (.slice pa ms2.length pc) (.slice oa os2.length oc)) 137]) (fun w' => zS w w' [zgP br, Blk bt (stC q MK1 (.slice pa ms2.length pc) (.slice oa os2.length oc)) 137, znP (encP.all ms2) pa ms2.length pc, zlP (encO.all os2) oa os2.length oc, Pool HH]) (by kernel_rfl) (by rfl) (by kernel_rfl) (by kernel_rfl) HO2.drew (Fam.st (fun _ h => h.pick [1])) ?_
      iterate 8 first | (apply script_pass; rfl; rfl; intro K hK; go_simp; refine hK _ ?_; clear hK K) | (apply script_step; rfl; rfl; (focus (intro I hI w1 h1'; have h1 := hI.2 _ h1'; have c6 := h1.cell 0 6 rfl rfl; have c7 := h1.cell 0 7 rfl rfl; have c8 := h1.cell 0 8 rfl rfl; first | (go_simp; first | rfl | exact ⟨rfl, h1'⟩))); intro K hK; go_simp; refine hK _ ?_; clear hK K)
      refine script_alone rfl rfl ?_; intro V hV w1 h1; have r0 := h1.free 0 0 rfl; have r1 := h1.free 0 1 rfl; have x0 := h1.cell 0 0 rfl rfl; have x1 := h1.cell 0 1 rfl rfl; have HX := (h1.set 0 rfl 0 (.int .i64 MK1)).set 0 rfl 1 (.slice pa ms2.length pc)
      go_simp
      refine ⟨fun w' => zS w w' [zfP br MK1 pa ms2.length pc, Blk bt (stC q MK1 (.slice pa ms2.length pc) (.slice oa os2.length oc)) 137, znP (encP.all ms2) pa ms2.length pc, zlP (encO.all os2) oa os2.length oc, Pool HH], hV _ _ _ (fun _ h => h) (Fam.st (fun _ h => h.pick [1])) ?_, HX⟩
      intro K hK
      go_simp
      refine hK _ ?_; clear hK K hV V; clear HX h1 w1 r0 r1 x0 x1
      iterate 2 first | (apply script_pass; rfl; rfl; intro K hK; go_simp; refine hK _ ?_; clear hK K) | (apply script_step; rfl; rfl; (focus (intro I hI w1 h1'; have h1 := hI.2 _ h1'; first | (go_simp; first | rfl | exact ⟨rfl, h1'⟩))); intro K hK; go_simp; refine hK _ ?_; clear hK K)
      refine script_nil ?_; intro w9 H9; go_wp2
      try simp only [Exit.inBlock, Exit.then]
      refine bodyPost_ret (results_ctt rfl rfl (blk_range (cs := [.int .i64 MK1, .slice pa ms2.length pc]) (H9.blk 0 rfl)) Tryz.underlying45 rfl (by kernel_rfl)) rfl ?_
      rw [hfres.out]; exact ⟨.slice pa ms2.length pc, .slice oa os2.length oc, ms2, os2, HH, rfl, hml2h.out, hol2h.out, hmo2h.out, hoo2h.out, H9.pick [2, 3, 4]⟩
    · have hk1 := hkindh.out hxrh.out hk2; subst hk1
      have hfr : res = eventM q ⟨mk, l⟩ ⟨1, xy, xt, xv⟩ := by
       rw [hsteph.out, hsrh.out, hxrh.out]
       rfl
      have kv := kvt.out hsrh.out hxrh.out rfl bt w5 S1 K1; unfold eventM at hfr; (try simp only at hfr); obtain ⟨LS, hLS⟩ := zNm (laysM q mk xv (winsOf q xy xt) ⟨l, [], false⟩); rw [hLS] at hfr kv; unfold EvOk at kv; clear hLS hsteph kmk kvt hkindh HS K1 hk2; unfold itmV textV at kv; simp only at kv
      cases LS with
      | none =>
       simp only at hfr kv; have hfres := zH hfr; clear hfr; go_upto_region 9 with (go_at_call 73; go_must (refine kv.mono ?_; rintro e w6 ⟨rfl, H10⟩))
       have H11 : zS w w6 [znP (encP.all ms) ca ms.length cc, Pool (ms.map Pm.own), zfP bw mk ca ms.length cc, zaP bq q.kind q.size q.slide q.late q.agg q.k, zfP bs mk va l.length vc, zeP bx xy.toArray xt xv, zgP br] := G1 _ _ H10; clear H10 G1 kv i0 i1 i2 i3; have y0 := H11.cell 2 0 rfl rfl; have y1 := H11.cell 2 1 rfl rfl; have x0 := H11.cell 6 0 rfl rfl; have x1 := H11.cell 6 1 rfl rfl; have r0 := H11.free 6 0 rfl; have r1 := H11.free 6 1 rfl; have H12 := (H11.set 6 rfl 0 (.int .i64 mk)).set 6 rfl 1 (.slice ca ms.length cc); go_wp2
       try simp only [Exit.inBlock, Exit.then]
       refine bodyPost_ret (results_ctt rfl rfl (blk_range (cs := [.int .i64 mk, .slice ca ms.length cc]) (H12.blk 6 rfl)) Tryz.underlying45 rfl (by kernel_rfl)) rfl ?_
       rw [hfres.out]; exact ⟨.slice ca ms.length cc, .slice none 0 0, ms, [], ms.map Pm.own, rfl, hmsh.out, rfl, fun m hm => List.mem_map_of_mem hm, (fun y hy => by cases hy), (H12.row_nil 63 10).pick [1, 0, 2]⟩
      | some y =>
       simp only at hfr kv
       by_cases hfull : 256 < y.panes.length
       · simp only [if_pos hfull] at hfr kv; have hfres := zH hfr; clear hfr; go_upto_region 9 with (go_at_call 73; go_must (refine kv.mono ?_; rintro e w6 ⟨rfl, H10⟩))
         have H11 : zS w w6 [znP (encP.all ms) ca ms.length cc, Pool (ms.map Pm.own), zfP bw mk ca ms.length cc, zaP bq q.kind q.size q.slide q.late q.agg q.k, zfP bs mk va l.length vc, zeP bx xy.toArray xt xv, zgP br] := G1 _ _ H10; clear H10 G1 kv i0 i1 i2 i3 hfull; have y0 := H11.cell 2 0 rfl rfl; have y1 := H11.cell 2 1 rfl rfl; have x0 := H11.cell 6 0 rfl rfl; have x1 := H11.cell 6 1 rfl rfl; have r0 := H11.free 6 0 rfl; have r1 := H11.free 6 1 rfl; have H12 := (H11.set 6 rfl 0 (.int .i64 mk)).set 6 rfl 1 (.slice ca ms.length cc); go_wp2
         try simp only [Exit.inBlock, Exit.then]
         refine bodyPost_ret (results_ctt rfl rfl (blk_range (cs := [.int .i64 mk, .slice ca ms.length cc]) (H12.blk 6 rfl)) Tryz.underlying45 rfl (by kernel_rfl)) rfl ?_
         rw [hfres.out]; exact ⟨.slice ca ms.length cc, .slice none 0 0, ms, [], ms.map Pm.own, rfl, hmsh.out, rfl, fun m hm => List.mem_map_of_mem hm, (fun y hy => by cases hy), (H12.row_nil 63 10).pick [1, 0, 2]⟩
       · simp only [if_neg hfull] at hfr kv
         obtain ⟨O1, hO1⟩ : ∃ z, (if y.taken = true then y.outs else y.outs ++ [lateO ⟨1, xy, xt, xv⟩]) = z := ⟨_, rfl⟩
         rw [hO1] at hfr kv; have hfres := zH hfr; obtain ⟨MK1, hMK1⟩ : ∃ z, z = mk := ⟨_, rfl⟩; obtain ⟨L1, hL1⟩ := zNm y.panes; rw [hL1] at kv hfres; clear hfr hO1 hfull hL1; go_upto_region 10 with (go_at_call 73; go_must (refine kv.mono ?_; rintro e w6 ⟨rfl, H10⟩))
         have H11 : zS w w6 [Stp bt q mk L1 O1, znP (encP.all ms) ca ms.length cc, Pool (ms.map Pm.own), zfP bw mk ca ms.length cc, zaP bq q.kind q.size q.slide q.late q.agg q.k, zfP bs mk va l.length vc, zeP bx xy.toArray xt xv, zgP br] := G1 _ _ H10; clear H10 G1 kv i0 i1 i2 i3; rw [← hMK1] at H11 hfres; clear hMK1; obtain ⟨pv, ov, ms2, os2, HH, hml2, hol2, hmo2, hoo2, HO⟩ := Stp.open H11; have hml2h := zH hml2; have hol2h := zH hol2; have hmo2h := zH hmo2; have hoo2h := zH hoo2; clear hml2 hol2 hmo2 hoo2 H11; obtain ⟨pa, pc, rfl, -, -⟩ := slice_form' (HO.row 1 rfl); obtain ⟨oa, oc, rfl, -, -⟩ := slice_form' (HO.row 2 rfl); have HO2 : zS w _ [zgP br, Blk bt (stC q MK1 (.slice pa ms2.length pc) (.slice oa os2.length oc)) 137, znP (encP.all ms2) pa ms2.length pc, zlP (encO.all os2) oa os2.length oc, Pool HH] := HO.pick [10, 0, 1, 2, 3]; clear HO; go_upto_region 10 with (fail)
         refine wp_script [(0, false), (1, false), (2, false), (3, false), (4, false), (5, false), (6, false), (7, false), (8, true), (9, false), (10, false)] (Fam fun w' => zS w w' [Blk bt (stC q MK1 (.slice pa ms2.length pc) (.slice oa os2.length oc)) 137]) (fun w' => zS w w' [zgP br, Blk bt (stC q MK1 (.slice pa ms2.length pc) (.slice oa os2.length oc)) 137, znP (encP.all ms2) pa ms2.length pc, zlP (encO.all os2) oa os2.length oc, Pool HH]) (by kernel_rfl) (by rfl) (by kernel_rfl) (by kernel_rfl) HO2.drew (Fam.st (fun _ h => h.pick [1])) ?_
         iterate 8 first | (apply script_pass; rfl; rfl; intro K hK; go_simp; refine hK _ ?_; clear hK K) | (apply script_step; rfl; rfl; (focus (intro I hI w1 h1'; have h1 := hI.2 _ h1'; have c6 := h1.cell 0 6 rfl rfl; have c7 := h1.cell 0 7 rfl rfl; have c8 := h1.cell 0 8 rfl rfl; first | (go_simp; first | rfl | exact ⟨rfl, h1'⟩))); intro K hK; go_simp; refine hK _ ?_; clear hK K)
         refine script_alone rfl rfl ?_; intro V hV w1 h1; have r0 := h1.free 0 0 rfl; have r1 := h1.free 0 1 rfl; have x0 := h1.cell 0 0 rfl rfl; have x1 := h1.cell 0 1 rfl rfl; have HX := (h1.set 0 rfl 0 (.int .i64 MK1)).set 0 rfl 1 (.slice pa ms2.length pc)
         go_simp
         refine ⟨fun w' => zS w w' [zfP br MK1 pa ms2.length pc, Blk bt (stC q MK1 (.slice pa ms2.length pc) (.slice oa os2.length oc)) 137, znP (encP.all ms2) pa ms2.length pc, zlP (encO.all os2) oa os2.length oc, Pool HH], hV _ _ _ (fun _ h => h) (Fam.st (fun _ h => h.pick [1])) ?_, HX⟩
         intro K hK
         go_simp
         refine hK _ ?_; clear hK K hV V; clear HX h1 w1 r0 r1 x0 x1
         iterate 2 first | (apply script_pass; rfl; rfl; intro K hK; go_simp; refine hK _ ?_; clear hK K) | (apply script_step; rfl; rfl; (focus (intro I hI w1 h1'; have h1 := hI.2 _ h1'; first | (go_simp; first | rfl | exact ⟨rfl, h1'⟩))); intro K hK; go_simp; refine hK _ ?_; clear hK K)
         refine script_nil ?_; intro w9 H9; go_wp2
         try simp only [Exit.inBlock, Exit.then]
         refine bodyPost_ret (results_ctt rfl rfl (blk_range (cs := [.int .i64 MK1, .slice pa ms2.length pc]) (H9.blk 0 rfl)) Tryz.underlying45 rfl (by kernel_rfl)) rfl ?_
         rw [hfres.out]; exact ⟨.slice pa ms2.length pc, .slice oa os2.length oc, ms2, os2, HH, rfl, hml2h.out, hol2h.out, hmo2h.out, hoo2h.out, H9.pick [2, 3, 4]⟩
end Go.Proofs.YtiglgfonhdfpmaaGreat
namespace Go.Proofs.YtiglgfonhdfpmaaGreat
open Go.RowKit
theorem ints_equal {v v' : Value} {l : List Int} {w : World} (hv : IntsRO w v l) (hv' : IntsRO w v' l) (hl : l.length ≤ 1073741824) :
    Calls Tryz.prog 70 #[v, v'] w fun e w' => e = .returned (.bool true) ∧ Below w.heap.size w w' := by
 obtain ⟨ao, cap, rfl, hcap, hfit, hic⟩ := hv; obtain ⟨ao', cap', rfl, hcap', -, hic'⟩ := hv'; have hich := zH hic; have hich' := zH hic'; clear hic hfit hic'; have H1 : zS w w [] := St.nil _ w
 go_enter Tryz.func70, Tryz.ntmps70
 go_upto_block 2 with (fail)
 go_loopw [5, 13] (fun _ j wr => ∃ (i : Nat), i ≤ l.length ∧ j = .int .i64 i ∧ zS w wr []) (fun _ j _ => l.length - (intOf j).toNat)
 case atStart => exact ⟨0, by omega, rfl, H1⟩
 case round =>
  clear H1; obtain ⟨i, hi, rfl, HM⟩ := hrel
  by_cases hlt : i < l.length
  · obtain ⟨b, o, rfl, hb, hc⟩ := hich.out (by intro e; rw [e] at hlt; simp at hlt)
    obtain ⟨b', o', rfl, hb', hc'⟩ := hich'.out (by intro e; rw [e] at hlt; simp at hlt)
    obtain ⟨y, hy⟩ : ∃ y, l[i]? = some y := ⟨_, List.getElem?_eq_getElem hlt⟩; have hc := hc i y hy; have hc' := hc' i y hy; have hlt2 : (i : Int) < (l.length : Int) := by omega
    clear hy; go_upto_region 6 with (fail)
    refine wp_calm (fun w' => zS w w' []) (by kernel_rfl) (by kernel_rfl) (HM.drew) ?_
    iterate 9 first | (apply calm_pass; rfl; intro K hK; go_simp; refine hK _ ?_; clear hK K) | (apply calm_step; rfl; (focus (intro w1 h1; have d0 := (World.cell?_of_block (h1.kept.block b hb id)).trans hc; have d1 := (World.cell?_of_block (h1.kept.block b' hb' id)).trans hc'; first | (go_simp; first | rfl | exact ⟨rfl, h1⟩))); intro K hK; go_simp; refine hK _ ?_; clear hK K)
    refine calm_nil ?_; intro w2 H2; go_wp2; go_roundw
    case rel =>
     exact ⟨i + 1, by omega, by go_num, H2⟩
    case measure => simp [intOf]; omega
  · obtain rfl : i = l.length := by omega
    go_wp2; go_ret; exact ⟨rfl, HM.below (Nat.le_refl _) (fun _ h => h.elim)⟩
end Go.Proofs.YtiglgfonhdfpmaaGreat
namespace Go.Proofs.YtiglgfonhdfpmaaGreat
open Go.RowKit
theorem ib_self {n : Int} (h : n.natAbs < 2 ^ 53) : (FloatKind.f64.format.order (ib n) (ib n) == some Ordering.eq) = true := by
 rw [(eq_ib h h).2 rfl]; rfl
theorem agg_same (g : Ag) {hv hv' : Value} (w : World) (hr : IntsRO w hv g.top) (hr' : IntsRO w hv' g.top) (hl : g.top.length ≤ 1073741824) (hx : g.x.natAbs < 2 ^ 53) (hy : g.y.natAbs < 2 ^ 53) :
    Calls Tryz.prog 141 #[agV g hv, agV g hv'] w fun e w' => e = .returned (.bool true) ∧ Below w.heap.size w w' := by
 have ke := fun w' (hk : Kept (fun _ => False) w w') => ints_equal (hr.later hk) (hr'.later hk) hl
 have x1 := ib_self hx; have x2 := ib_self hy; obtain ⟨ad, cap, rfl, -⟩ := hr; obtain ⟨ad', cap', rfl, -⟩ := hr'; obtain ⟨n, a, tp, x, y⟩ := g; unfold agV agC; simp only at ke x1 x2 ⊢; clear hl hx hy; obtain ⟨X, hX⟩ := zNm (ib x); obtain ⟨Y, hY⟩ := zNm (ib y); simp only [hX, hY] at x1 x2 ⊢; clear hX hY; obtain ⟨b, hb⟩ := zNm w.heap.size; obtain ⟨b2, hb2⟩ := zNm (b + 1); have H0 : zS w _ [_] := (St.nil _ w).allocAt hb #[.int .i64 n, .int .i64 a, .slice ad tp.length cap, .complex .f64 X Y] 66; have H := H0.allocAt (B := b2) (by rw [← hb2, ← hb]; exact Array.size_push _) #[.int .i64 n, .int .i64 a, .slice ad' tp.length cap', .complex .f64 X Y] 66
 obtain ⟨w1, hw1⟩ := zNm ((w.alloc (.cells #[.int .i64 n, .int .i64 a, .slice ad tp.length cap, .complex .f64 X Y] 66)).alloc (.cells #[.int .i64 n, .int .i64 a, .slice ad' tp.length cap', .complex .f64 X Y] 66)); rw [hw1] at H
 go_enter Tryz.func141, Tryz.ntmps141
 go_upto_region 1 with (fail)
 (try simp only [hb, hb2]); (try rw [hw1]); have hbh := zH hb; clear hw1 hb hb2 H0; have H3 : zS w w1 [zdP b2 n a ad' tp.length cap' X Y, zdP b n a ad tp.length cap X Y] := H; clear H; have c0 := H3.cell 0 0 rfl rfl; have c1 := H3.cell 0 1 rfl rfl; have c2 := H3.cell 0 2 rfl rfl; have c3 := H3.cell 0 3 rfl rfl; have d0 := H3.cell 1 0 rfl rfl; have d1 := H3.cell 1 1 rfl rfl; have d2 := H3.cell 1 2 rfl rfl; have d3 := H3.cell 1 3 rfl rfl
 go_wp2_with (go_at_call 70; go_must (refine (St.callPast (ke _ H3.kept) H3).mono ?_; rintro e w2 ⟨rfl, H2⟩))
 go_ret; exact ⟨rfl, H2.below (Nat.le_refl _) (fun _ h => h.elim)⟩
theorem pane_same (m m' : Pm) (w : World) (he : m.p = m'.p) (hr : IntsRO w m.hd m.p.g.top) (hr' : IntsRO w m'.hd m'.p.g.top) (hf : m.p.fits) :
    Calls Tryz.prog 75 #[pnV m, pnV m'] w fun e w' => e = .returned (.bool true) ∧ Below w.heap.size w w' := by
 obtain ⟨p, ad, cap⟩ := m; obtain ⟨p', ad', cap'⟩ := m'; simp only at he hf hr hr'; subst he; obtain ⟨-, hl, hx, hy⟩ := hf; have ke := fun w' (hk : Kept (fun _ => False) w w') => agg_same p.g w' (hr.later hk) (hr'.later hk) hl hx hy
 clear hr hr' hl hx hy; obtain ⟨⟨xk, xf, xt⟩, ⟨gn, ga, gt, gx, gy⟩, xr⟩ := p; unfold agV agC at ke; unfold pnV pnC textV; simp only at ke ⊢; obtain ⟨X, hX⟩ := zNm (ib gx); obtain ⟨Y, hY⟩ := zNm (ib gy); simp only [hX, hY] at ke ⊢; clear hX hY; obtain ⟨b, hb⟩ := zNm w.heap.size; obtain ⟨b2, hb2⟩ := zNm (b + 1); have H0 : zS w _ [_] := (St.nil _ w).allocAt hb #[.string ⟨xk.toArray⟩, .int .i64 xf, .int .i64 xt, .int .i64 gn, .int .i64 ga, .slice ad gt.length cap, .complex .f64 X Y, .int .i64 xr] 68; have H := H0.allocAt (B := b2) (by rw [← hb2, ← hb]; exact Array.size_push _) #[.string ⟨xk.toArray⟩, .int .i64 xf, .int .i64 xt, .int .i64 gn, .int .i64 ga, .slice ad' gt.length cap', .complex .f64 X Y, .int .i64 xr] 68
 obtain ⟨w1, hw1⟩ := zNm ((w.alloc (.cells #[.string ⟨xk.toArray⟩, .int .i64 xf, .int .i64 xt, .int .i64 gn, .int .i64 ga, .slice ad gt.length cap, .complex .f64 X Y, .int .i64 xr] 68)).alloc (.cells #[.string ⟨xk.toArray⟩, .int .i64 xf, .int .i64 xt, .int .i64 gn, .int .i64 ga, .slice ad' gt.length cap', .complex .f64 X Y, .int .i64 xr] 68)); rw [hw1] at H
 go_enter Tryz.func75, Tryz.ntmps75
 go_upto_region 1 with (fail)
 (try simp only [hb, hb2]); (try rw [hw1]); have hbh := zH hb; clear hw1 hb hb2 H0; have H3 : zS w w1 [zbP b2 xk.toArray xf xt gn ga ad' gt.length cap' X Y xr, zbP b xk.toArray xf xt gn ga ad gt.length cap X Y xr] := H; clear H; have c0 := H3.cell 0 0 rfl rfl; have c1 := H3.cell 0 1 rfl rfl; have c2 := H3.cell 0 2 rfl rfl; have c3 := H3.cell 0 3 rfl rfl; have c4 := H3.cell 0 4 rfl rfl; have c5 := H3.cell 0 5 rfl rfl; have c6 := H3.cell 0 6 rfl rfl; have c7 := H3.cell 0 7 rfl rfl; have d0 := H3.cell 1 0 rfl rfl; have d1 := H3.cell 1 1 rfl rfl; have d2 := H3.cell 1 2 rfl rfl; have d3 := H3.cell 1 3 rfl rfl; have d4 := H3.cell 1 4 rfl rfl; have d5 := H3.cell 1 5 rfl rfl; have d6 := H3.cell 1 6 rfl rfl; have d7 := H3.cell 1 7 rfl rfl
 go_wp2_with (go_at_call 141; go_must (refine (St.callPast (ke _ H3.kept) H3).mono ?_; rintro e w2 ⟨rfl, H2⟩))
 go_ret; exact ⟨rfl, H2.below (Nat.le_refl _) (fun _ h => h.elim)⟩
end Go.Proofs.YtiglgfonhdfpmaaGreat
namespace Go.Proofs.YtiglgfonhdfpmaaGreat
open Go.RowKit
theorem pns_equal {v v' : Value} {l : List Pn} (w : World) (hv : PnsRO w v l) (hv' : PnsRO w v' l) (hl : l.length ≤ 1073741824) (hf : ∀ p ∈ l, p.fits) :
    Calls Tryz.prog 74 #[v, v', .func (.func 75) #[] #[]] w fun e w' => e = .returned (.bool true) ∧ Below w.heap.size w w' := by
 obtain ⟨ms, hm, hic0, hro⟩ := hv; obtain ⟨ms', hm', hic0', hro'⟩ := hv'; obtain ⟨ao, cap, rfl, hcap, hic⟩ := hic0; obtain ⟨ao', cap', rfl, hcap', hic'⟩ := hic0'; have e1 : ms.length = l.length := by rw [← hm, List.length_map]
 have e2 : ms'.length = l.length := by rw [← hm', List.length_map]
 have ks := zH (fun (i : Nat) (m m' : Pm) (h1 : ms[i]? = some m) (h2 : ms'[i]? = some m') w' (hk : Kept (fun _ => False) w w') => by
  have a1 : l[i]? = some m.p := by rw [← hm, List.getElem?_map, h1]; rfl
  have a2 : l[i]? = some m'.p := by rw [← hm', List.getElem?_map, h2]; rfl
  have hp : m.p = m'.p := by rw [a1] at a2; exact Option.some.inj a2
  exact And.intro hp (pane_same m m' w' hp ((hro m (List.mem_of_getElem? h1)).later hk) ((hro' m' (List.mem_of_getElem? h2)).later hk) (hf m.p (List.mem_of_getElem? a1))))
 have hich := zH hic; have hich' := zH hic'; rw [e1, e2]; have e1h := zH e1; have e2h := zH e2; clear hic hic' hro hro' hm hm' e1 e2; have H1 : zS w w [] := St.nil _ w
 go_enter Tryz.func74, Tryz.ntmps74
 go_upto_block 2 with (fail)
 go_loopw [7, 8, 9, 17] (fun _ _ _ j wr => ∃ (i : Nat), i ≤ l.length ∧ j = .int .i64 i ∧ zS w wr []) (fun _ _ _ j _ => l.length - (intOf j).toNat)
 case atStart => exact ⟨0, by omega, rfl, H1⟩
 case round =>
  clear H1; obtain ⟨i, hi, rfl, HM⟩ := hrel
  by_cases hlt : i < l.length
  · have hlt1 : i < ms.length := by rw [e1h.out]; exact hlt
    have hlt2 : i < ms'.length := by rw [e2h.out]; exact hlt
    obtain ⟨b, o, rfl, hb, hc⟩ := hich.out (by intro e; rw [e] at hlt1; simp at hlt1)
    obtain ⟨b', o', rfl, hb', hc'⟩ := hich'.out (by intro e; rw [e] at hlt2; simp at hlt2)
    obtain ⟨y, hy⟩ : ∃ y, ms[i]? = some y := ⟨_, List.getElem?_eq_getElem hlt1⟩; obtain ⟨y', hy'⟩ : ∃ y, ms'[i]? = some y := ⟨_, List.getElem?_eq_getElem hlt2⟩; have hc := hc i y hy; have hc' := hc' i y' hy'; obtain ⟨hpp, -⟩ := ks.out i y y' hy hy' wr HM.kept; have kk := fun w' hk => (ks.out i y y' hy hy' w' hk).2
    have hlt3 : (i : Int) < (l.length : Int) := by omega
    clear hy hy' hlt1 hlt2; obtain ⟨q0, q1, q2, q3, q4, q5, q6, q7⟩ := pn_cells hc (HM.kept.block b hb id); obtain ⟨P, xa, xc⟩ := y; obtain ⟨P', xa', xc'⟩ := y'; simp only at hpp; subst hpp; obtain ⟨⟨xk, xf, xt⟩, ⟨gn, ga, gt, gx, gy⟩, xr⟩ := P; have hch' := zH hc'; clear hc hc'; unfold pnV pnC Pm.hd textV at kk; simp only at q0 q1 q2 q3 q4 q5 q6 q7 kk; unfold textV at q0
    try unfold Pm.hd at q5
    (try simp only at q5); have HA : zS w _ [_] := HM.allocAt rfl #[.string ⟨xk.toArray⟩, .int .i64 xf, .int .i64 xt, .int .i64 gn, .int .i64 ga, .slice xa gt.length xc, .complex .f64 (ib gx) (ib gy), .int .i64 xr] 68; go_upto_region 6 with (fail)
    obtain ⟨wb, hwb⟩ := zNm (wr.alloc (.cells #[.string ⟨xk.toArray⟩, .int .i64 xf, .int .i64 xt, .int .i64 gn, .int .i64 ga, .slice xa gt.length xc, .complex .f64 (ib gx) (ib gy), .int .i64 xr] 68)); obtain ⟨yb, hyb⟩ := zNm wr.heap.size; rw [hwb, hyb] at HA; (try rw [hwb]); (try simp only [hyb]); have HA2 : zS w wb [zbfP yb (ib gx) (ib gy) xk.toArray xf xt gn ga xa gt.length xc xr] := HA; clear hwb hyb q0 q1 q2 q3 q4 q5 q6 q7 HM HA; obtain ⟨r0, r1, r2, r3, r4, r5, r6, r7⟩ := pn_cells hch'.out (HA2.kept.block b' hb' id); simp only at r0 r1 r2 r3 r4 r5 r6 r7; unfold textV at r0
    try unfold Pm.hd at r5
    (try simp only at r5); have HB : zS w _ [_, _] := HA2.allocAt rfl #[.string ⟨xk.toArray⟩, .int .i64 xf, .int .i64 xt, .int .i64 gn, .int .i64 ga, .slice xa' gt.length xc', .complex .f64 (ib gx) (ib gy), .int .i64 xr] 68; go_upto_region 7 with (fail)
    obtain ⟨wc, hwc⟩ := zNm (wb.alloc (.cells #[.string ⟨xk.toArray⟩, .int .i64 xf, .int .i64 xt, .int .i64 gn, .int .i64 ga, .slice xa' gt.length xc', .complex .f64 (ib gx) (ib gy), .int .i64 xr] 68)); obtain ⟨zb, hzb⟩ := zNm wb.heap.size; rw [hwc, hzb] at HB; (try rw [hwc]); (try simp only [hzb]); have HB2 : zS w wc [zbfP zb (ib gx) (ib gy) xk.toArray xf xt gn ga xa' gt.length xc' xr, zbfP yb (ib gx) (ib gy) xk.toArray xf xt gn ga xa gt.length xc xr] := HB; clear hwc hzb r0 r1 r2 r3 r4 r5 r6 r7 HB HA2; have c0 := HB2.cell 1 0 rfl rfl; have d0 := HB2.cell 0 0 rfl rfl; have c1 := HB2.cell 1 1 rfl rfl; have d1 := HB2.cell 0 1 rfl rfl; have c2 := HB2.cell 1 2 rfl rfl; have d2 := HB2.cell 0 2 rfl rfl; have c3 := HB2.cell 1 3 rfl rfl; have d3 := HB2.cell 0 3 rfl rfl; have c4 := HB2.cell 1 4 rfl rfl; have d4 := HB2.cell 0 4 rfl rfl; have c5 := HB2.cell 1 5 rfl rfl; have d5 := HB2.cell 0 5 rfl rfl; have c6 := HB2.cell 1 6 rfl rfl; have d6 := HB2.cell 0 6 rfl rfl; have c7 := HB2.cell 1 7 rfl rfl; have d7 := HB2.cell 0 7 rfl rfl
    go_wp2_with (go_at_call 75; go_must (refine (St.callPast (kk _ HB2.kept) HB2).mono ?_; rintro e w3 ⟨rfl, H3⟩))
    go_roundw
    case rel => exact ⟨i + 1, by omega, by go_num, H3.pick []⟩
    case measure => simp [intOf]; omega
  · obtain rfl : i = l.length := by omega
    go_wp2; go_ret; exact ⟨rfl, HM.below (Nat.le_refl _) (fun _ h => h.elim)⟩
theorem oper_same (s : Stt) {v v' : Value} (w : World) (hv : PnsRO w v s.panes) (hv' : PnsRO w v' s.panes) (hl : s.panes.length ≤ 1073741824) (hf : ∀ p ∈ s.panes, p.fits) :
    Calls Tryz.prog 28 #[.agg #[.int .i64 s.mark, v], .agg #[.int .i64 s.mark, v']] w fun e w' => e = .returned (.bool true) ∧ Below w.heap.size w w' := by
 have ke := fun w' (hk : Kept (fun _ => False) w w') => pns_equal w' (hv.later hk) (hv'.later hk) hl hf
 obtain ⟨ms, hm, hv0, -⟩ := hv; obtain ⟨ms', hm', hv0', -⟩ := hv'; obtain ⟨va, vc, rfl, -, -⟩ := hv0; obtain ⟨va', vc', rfl, -, -⟩ := hv0'; obtain ⟨mk, l⟩ := s; simp only at ke ⊢; clear hl hf hm hm'; obtain ⟨b, hb⟩ := zNm w.heap.size; obtain ⟨b2, hb2⟩ := zNm (b + 1); have H0 : zS w _ [_] := (St.nil _ w).allocAt hb #[.int .i64 mk, .slice va ms.length vc] 45; have H := H0.allocAt (B := b2) (by rw [← hb2, ← hb]; exact Array.size_push _) #[.int .i64 mk, .slice va' ms'.length vc'] 45
 obtain ⟨w1, hw1⟩ := zNm ((w.alloc (.cells #[.int .i64 mk, .slice va ms.length vc] 45)).alloc (.cells #[.int .i64 mk, .slice va' ms'.length vc'] 45)); rw [hw1] at H
 go_enter Tryz.func28, Tryz.ntmps28
 go_upto_region 1 with (fail)
 (try simp only [hb, hb2]); (try rw [hw1]); have hbh := zH hb; clear hw1 hb hb2 H0; have H3 : zS w w1 [zfP b2 mk va' ms'.length vc', zfP b mk va ms.length vc] := H; have c0 := H3.cell 0 0 rfl rfl; have c1 := H3.cell 0 1 rfl rfl; have d0 := H3.cell 1 0 rfl rfl; have d1 := H3.cell 1 1 rfl rfl
 go_wp2_with (go_at_call 74; go_must (refine (St.callPast (ke _ H3.kept) H3).mono ?_; rintro e w2 ⟨rfl, H2⟩))
 go_ret; exact ⟨rfl, H2.below (Nat.le_refl _) (fun _ h => h.elim)⟩
theorem oper_new (w : World) : Calls Tryz.prog 22 #[] w fun e w' => e = .returned (.agg #[.int .i64 (-1), .slice none 0 0]) ∧ zS w w' [] := by
 have H0 : zS w _ [_] := (St.nil _ w).allocAt rfl #[.int .i64 (-1), .slice none 0 0] 45
 go_enter Tryz.func22, Tryz.ntmps22
 go_wp2
 try simp only [Exit.inBlock, Exit.then]
 refine bodyPost_ret (results_ag rfl rfl (blk_range (cs := [.int .i64 (-1), .slice none 0 0]) (H0.blk 0 rfl)) Tryz.underlying45 rfl (by kernel_rfl)) rfl ?_
 exact ⟨rfl, H0.pick []⟩
end Go.Proofs.YtiglgfonhdfpmaaGreat
namespace Go.Proofs.YtiglgfonhdfpmaaGreat
open Go.RowKit
theorem ot_cells {w w' : World} {b o i : Nat} {x : Om} (h : w.rangeAt b (o + i * 10) (otC x).toList) (hb : w'.heap[b]? = w.heap[b]?) :
    w'.cell? ⟨b, o + i * 10, none⟩ = some (.bool x.o.late) ∧ w'.cell? ⟨b, o + i * 10 + 1, none⟩ = some (.int .i64 x.o.item.kind) ∧ w'.cell? ⟨b, o + i * 10 + 2, none⟩ = some (textV x.o.item.key) ∧ w'.cell? ⟨b, o + i * 10 + 3, none⟩ = some (.int .i64 x.o.item.time) ∧ w'.cell? ⟨b, o + i * 10 + 4, none⟩ = some (.int .i64 x.o.item.value) ∧
    w'.cell? ⟨b, o + i * 10 + 5, none⟩ = some (textV x.o.w.key) ∧ w'.cell? ⟨b, o + i * 10 + 6, none⟩ = some (.int .i64 x.o.w.frm) ∧ w'.cell? ⟨b, o + i * 10 + 7, none⟩ = some (.int .i64 x.o.w.to) ∧ w'.cell? ⟨b, o + i * 10 + 8, none⟩ = some (.int .i64 x.o.round) ∧ w'.cell? ⟨b, o + i * 10 + 9, none⟩ = some x.hd :=
 ⟨Enc.at (E := encO) h hb (j := 0) rfl, Enc.at (E := encO) h hb (j := 1) rfl, Enc.at (E := encO) h hb (j := 2) rfl, Enc.at (E := encO) h hb (j := 3) rfl, Enc.at (E := encO) h hb (j := 4) rfl, Enc.at (E := encO) h hb (j := 5) rfl, Enc.at (E := encO) h hb (j := 6) rfl, Enc.at (E := encO) h hb (j := 7) rfl, Enc.at (E := encO) h hb (j := 8) rfl, Enc.at (E := encO) h hb (j := 9) rfl⟩
abbrev zbbP (a0) (a1) (a2) (a3) (a4) (a5) (a6) (a7) (a8) (a9) (a10) (a11) (a12) := (Blk a0 #[.bool a1, .int .i64 a2, .string ⟨a3⟩, .int .i64 a4, .int .i64 a5, .string ⟨a6⟩, .int .i64 a7, .int .i64 a8, .int .i64 a9, .slice a10 a11 a12] 63 : SP)
theorem out_same (m m' : Om) (w : World) (he : m.o = m'.o) (hr : IntsRO w m.hd m.o.value) (hr' : IntsRO w m'.hd m'.o.value) (hf : m.o.value.length ≤ 1073741824) :
    Calls Tryz.prog 69 #[otV m, otV m'] w fun e w' => e = .returned (.bool true) ∧ Below w.heap.size w w' := by
 obtain ⟨p, xa, xc⟩ := m; obtain ⟨p', xa', xc'⟩ := m'; simp only at he hf hr hr'; subst he; have ke := fun w' (hk : Kept (fun _ => False) w w') => ints_equal (hr.later hk) (hr'.later hk) hf
 clear hr hr' hf; obtain ⟨ol, ⟨ik, iy, it, iv⟩, ⟨xk, xf, xt⟩, xr, vs⟩ := p; unfold otV otC textV; simp only at ke ⊢; obtain ⟨b, hb⟩ := zNm w.heap.size; obtain ⟨b2, hb2⟩ := zNm (b + 1); have H0 : zS w _ [_] := (St.nil _ w).allocAt hb #[.bool ol, .int .i64 ik, .string ⟨iy.toArray⟩, .int .i64 it, .int .i64 iv, .string ⟨xk.toArray⟩, .int .i64 xf, .int .i64 xt, .int .i64 xr, .slice xa vs.length xc] 63; have H := H0.allocAt (B := b2) (by rw [← hb2, ← hb]; exact Array.size_push _) #[.bool ol, .int .i64 ik, .string ⟨iy.toArray⟩, .int .i64 it, .int .i64 iv, .string ⟨xk.toArray⟩, .int .i64 xf, .int .i64 xt, .int .i64 xr, .slice xa' vs.length xc'] 63
 obtain ⟨w1, hw1⟩ := zNm ((w.alloc (.cells #[.bool ol, .int .i64 ik, .string ⟨iy.toArray⟩, .int .i64 it, .int .i64 iv, .string ⟨xk.toArray⟩, .int .i64 xf, .int .i64 xt, .int .i64 xr, .slice xa vs.length xc] 63)).alloc (.cells #[.bool ol, .int .i64 ik, .string ⟨iy.toArray⟩, .int .i64 it, .int .i64 iv, .string ⟨xk.toArray⟩, .int .i64 xf, .int .i64 xt, .int .i64 xr, .slice xa' vs.length xc'] 63)); rw [hw1] at H
 go_enter Tryz.func69, Tryz.ntmps69
 go_upto_region 1 with (fail)
 (try simp only [hb, hb2]); (try rw [hw1]); have hbh := zH hb; clear hw1 hb hb2 H0; have H3 : zS w w1 [zbbP b2 ol ik iy.toArray it iv xk.toArray xf xt xr xa' vs.length xc', zbbP b ol ik iy.toArray it iv xk.toArray xf xt xr xa vs.length xc] := H; clear H; have c0 := H3.cell 0 0 rfl rfl; have d0 := H3.cell 1 0 rfl rfl; have c1 := H3.cell 0 1 rfl rfl; have d1 := H3.cell 1 1 rfl rfl; have c2 := H3.cell 0 2 rfl rfl; have d2 := H3.cell 1 2 rfl rfl; have c3 := H3.cell 0 3 rfl rfl; have d3 := H3.cell 1 3 rfl rfl; have c4 := H3.cell 0 4 rfl rfl; have d4 := H3.cell 1 4 rfl rfl; have c5 := H3.cell 0 5 rfl rfl; have d5 := H3.cell 1 5 rfl rfl; have c6 := H3.cell 0 6 rfl rfl; have d6 := H3.cell 1 6 rfl rfl; have c7 := H3.cell 0 7 rfl rfl; have d7 := H3.cell 1 7 rfl rfl; have c8 := H3.cell 0 8 rfl rfl; have d8 := H3.cell 1 8 rfl rfl; have c9 := H3.cell 0 9 rfl rfl; have d9 := H3.cell 1 9 rfl rfl
 go_wp2_with (go_at_call 70; go_must (refine (St.callPast (ke _ H3.kept) H3).mono ?_; rintro e w2 ⟨rfl, H2⟩))
 go_ret; exact ⟨rfl, H2.below (Nat.le_refl _) (fun _ h => h.elim)⟩
theorem ots_equal {v v' : Value} {l : List Ot} (w : World) (hv : OtsRO w v l) (hv' : OtsRO w v' l) (hl : l.length ≤ 1073741824) (hf : ∀ p ∈ l, p.value.length ≤ 1073741824) :
    Calls Tryz.prog 68 #[v, v', .func (.func 69) #[] #[]] w fun e w' => e = .returned (.bool true) ∧ Below w.heap.size w w' := by
 obtain ⟨ms, hm, hic0, hro⟩ := hv; obtain ⟨ms', hm', hic0', hro'⟩ := hv'; obtain ⟨ao, cap, rfl, hcap, hic⟩ := hic0; obtain ⟨ao', cap', rfl, hcap', hic'⟩ := hic0'; have e1 : ms.length = l.length := by rw [← hm, List.length_map]
 have e2 : ms'.length = l.length := by rw [← hm', List.length_map]
 have ks := zH (fun (i : Nat) (m m' : Om) (h1 : ms[i]? = some m) (h2 : ms'[i]? = some m') w' (hk : Kept (fun _ => False) w w') => by
  have a1 : l[i]? = some m.o := by rw [← hm, List.getElem?_map, h1]; rfl
  have a2 : l[i]? = some m'.o := by rw [← hm', List.getElem?_map, h2]; rfl
  have hp : m.o = m'.o := by rw [a1] at a2; exact Option.some.inj a2
  exact And.intro hp (out_same m m' w' hp ((hro m (List.mem_of_getElem? h1)).later hk) ((hro' m' (List.mem_of_getElem? h2)).later hk) (hf m.o (List.mem_of_getElem? a1))))
 have hich := zH hic; have hich' := zH hic'; rw [e1, e2]; have e1h := zH e1; have e2h := zH e2; clear hic hic' hro hro' hm hm' e1 e2; have H1 : zS w w [] := St.nil _ w
 go_enter Tryz.func68, Tryz.ntmps68
 go_upto_block 2 with (fail)
 go_loopw [7, 8, 9, 17] (fun _ _ _ j wr => ∃ (i : Nat), i ≤ l.length ∧ j = .int .i64 i ∧ zS w wr []) (fun _ _ _ j _ => l.length - (intOf j).toNat)
 case atStart => exact ⟨0, by omega, rfl, H1⟩
 case round =>
  clear H1; obtain ⟨i, hi, rfl, HM⟩ := hrel
  by_cases hlt : i < l.length
  · have hlt1 : i < ms.length := by rw [e1h.out]; exact hlt
    have hlt2 : i < ms'.length := by rw [e2h.out]; exact hlt
    obtain ⟨b, o, rfl, hb, hc⟩ := hich.out (by intro e; rw [e] at hlt1; simp at hlt1)
    obtain ⟨b', o', rfl, hb', hc'⟩ := hich'.out (by intro e; rw [e] at hlt2; simp at hlt2)
    obtain ⟨y, hy⟩ : ∃ y, ms[i]? = some y := ⟨_, List.getElem?_eq_getElem hlt1⟩; obtain ⟨y', hy'⟩ : ∃ y, ms'[i]? = some y := ⟨_, List.getElem?_eq_getElem hlt2⟩; have hc := hc i y hy; have hc' := hc' i y' hy'; obtain ⟨hpp, -⟩ := ks.out i y y' hy hy' wr HM.kept; have kk := fun w' hk => (ks.out i y y' hy hy' w' hk).2
    have hlt3 : (i : Int) < (l.length : Int) := by omega
    clear hy hy' hlt1 hlt2; obtain ⟨q0, q1, q2, q3, q4, q5, q6, q7, q8, q9⟩ := ot_cells hc (HM.kept.block b hb id); obtain ⟨P, xa, xc⟩ := y; obtain ⟨P', xa', xc'⟩ := y'; simp only at hpp; subst hpp; obtain ⟨ol, ⟨ik, iy, it, iv⟩, ⟨xk, xf, xt⟩, xr, vs⟩ := P; have hch' := zH hc'; clear hc hc'; unfold otV otC Om.hd textV at kk; simp only at q0 q1 q2 q3 q4 q5 q6 q7 q8 q9 kk; unfold textV at q2 q5
    try unfold Om.hd at q9
    (try simp only at q9); have HA : zS w _ [_] := HM.allocAt rfl #[.bool ol, .int .i64 ik, .string ⟨iy.toArray⟩, .int .i64 it, .int .i64 iv, .string ⟨xk.toArray⟩, .int .i64 xf, .int .i64 xt, .int .i64 xr, .slice xa vs.length xc] 63; go_upto_region 6 with (fail)
    obtain ⟨wb, hwb⟩ := zNm (wr.alloc (.cells #[.bool ol, .int .i64 ik, .string ⟨iy.toArray⟩, .int .i64 it, .int .i64 iv, .string ⟨xk.toArray⟩, .int .i64 xf, .int .i64 xt, .int .i64 xr, .slice xa vs.length xc] 63)); obtain ⟨yb, hyb⟩ := zNm wr.heap.size; rw [hwb, hyb] at HA; (try rw [hwb]); (try simp only [hyb]); have HA2 : zS w wb [zbbP yb ol ik iy.toArray it iv xk.toArray xf xt xr xa vs.length xc] := HA; clear hwb hyb q0 q1 q2 q3 q4 q5 q6 q7 q8 q9 HM HA; obtain ⟨r0, r1, r2, r3, r4, r5, r6, r7, r8, r9⟩ := ot_cells hch'.out (HA2.kept.block b' hb' id); simp only at r0 r1 r2 r3 r4 r5 r6 r7 r8 r9; unfold textV at r2 r5
    try unfold Om.hd at r9
    (try simp only at r9); have HB : zS w _ [_, _] := HA2.allocAt rfl #[.bool ol, .int .i64 ik, .string ⟨iy.toArray⟩, .int .i64 it, .int .i64 iv, .string ⟨xk.toArray⟩, .int .i64 xf, .int .i64 xt, .int .i64 xr, .slice xa' vs.length xc'] 63; go_upto_region 7 with (fail)
    obtain ⟨wc, hwc⟩ := zNm (wb.alloc (.cells #[.bool ol, .int .i64 ik, .string ⟨iy.toArray⟩, .int .i64 it, .int .i64 iv, .string ⟨xk.toArray⟩, .int .i64 xf, .int .i64 xt, .int .i64 xr, .slice xa' vs.length xc'] 63)); obtain ⟨zb, hzb⟩ := zNm wb.heap.size; rw [hwc, hzb] at HB; (try rw [hwc]); (try simp only [hzb]); have HB2 : zS w wc [zbbP zb ol ik iy.toArray it iv xk.toArray xf xt xr xa' vs.length xc', zbbP yb ol ik iy.toArray it iv xk.toArray xf xt xr xa vs.length xc] := HB; clear hwc hzb r0 r1 r2 r3 r4 r5 r6 r7 r8 r9 HB HA2; have c0 := HB2.cell 1 0 rfl rfl; have d0 := HB2.cell 0 0 rfl rfl; have c1 := HB2.cell 1 1 rfl rfl; have d1 := HB2.cell 0 1 rfl rfl; have c2 := HB2.cell 1 2 rfl rfl; have d2 := HB2.cell 0 2 rfl rfl; have c3 := HB2.cell 1 3 rfl rfl; have d3 := HB2.cell 0 3 rfl rfl; have c4 := HB2.cell 1 4 rfl rfl; have d4 := HB2.cell 0 4 rfl rfl; have c5 := HB2.cell 1 5 rfl rfl; have d5 := HB2.cell 0 5 rfl rfl; have c6 := HB2.cell 1 6 rfl rfl; have d6 := HB2.cell 0 6 rfl rfl; have c7 := HB2.cell 1 7 rfl rfl; have d7 := HB2.cell 0 7 rfl rfl; have c8 := HB2.cell 1 8 rfl rfl; have d8 := HB2.cell 0 8 rfl rfl; have c9 := HB2.cell 1 9 rfl rfl; have d9 := HB2.cell 0 9 rfl rfl
    go_wp2_with (go_at_call 69; go_must (refine (St.callPast (kk _ HB2.kept) HB2).mono ?_; rintro e w3 ⟨rfl, H3⟩))
    go_roundw
    case rel => exact ⟨i + 1, by omega, by go_num, H3.pick []⟩
    case measure => simp [intOf]; omega
  · obtain rfl : i = l.length := by omega
    go_wp2; go_ret; exact ⟨rfl, HM.below (Nat.le_refl _) (fun _ h => h.elim)⟩
theorem oper_outs {v v' : Value} {l : List Ot} (w : World) (hv : OtsRO w v l) (hv' : OtsRO w v' l) (hl : l.length ≤ 1073741824) (hf : ∀ p ∈ l, p.value.length ≤ 1073741824) :
    Calls Tryz.prog 26 #[v, v'] w fun e w' => e = .returned (.bool true) ∧ Below w.heap.size w w' := by
 have ke := ots_equal w hv hv' hl hf; obtain ⟨ms, hm, hv0, -⟩ := hv; obtain ⟨ms', hm', hv0', -⟩ := hv'; obtain ⟨va, vc, rfl, -, -⟩ := hv0; obtain ⟨va', vc', rfl, -, -⟩ := hv0'; clear hm hm' hl hf; have H : zS w w [] := St.nil _ w
 go_enter Tryz.func26, Tryz.ntmps26
 go_wp2_with (go_at_call 68; go_must (refine (St.callPast ke H).mono ?_; rintro e w2 ⟨rfl, H2⟩))
 go_ret; exact ⟨rfl, H2.below (Nat.le_refl _) (fun _ h => h.elim)⟩
end Go.Proofs.YtiglgfonhdfpmaaGreat
namespace Go.Proofs.YtiglgfonhdfpmaaGreat
open Go.RowKit
theorem ref_ints {v v' : Value} {l : List Int} {w : World} (hv : IntsRO w v l) (hv' : IntsRO w v' l) (hl : l.length ≤ 1073741824) :
    Calls Tryz.prog 30 #[v, v'] w fun e w' => e = .returned (.bool true) ∧ Below w.heap.size w w' := by
 obtain ⟨ao, cap, rfl, hcap, hfit, hic⟩ := hv; obtain ⟨ao', cap', rfl, hcap', -, hic'⟩ := hv'; have hich := zH hic; have hich' := zH hic'; clear hic hfit hic'; have H1 : zS w w [] := St.nil _ w
 go_enter Tryz.func30, Tryz.ntmps30
 go_upto_block 1 with (fail)
 go_loopw [5, 13] (fun _ j wr => ∃ (i : Nat), i ≤ l.length ∧ j = .int .i64 i ∧ zS w wr []) (fun _ j _ => l.length - (intOf j).toNat)
 case atStart => exact ⟨0, by omega, rfl, H1⟩
 case round =>
  clear H1; obtain ⟨i, hi, rfl, HM⟩ := hrel
  by_cases hlt : i < l.length
  · obtain ⟨b, o, rfl, hb, hc⟩ := hich.out (by intro e; rw [e] at hlt; simp at hlt)
    obtain ⟨b', o', rfl, hb', hc'⟩ := hich'.out (by intro e; rw [e] at hlt; simp at hlt)
    obtain ⟨y, hy⟩ : ∃ y, l[i]? = some y := ⟨_, List.getElem?_eq_getElem hlt⟩; have hc := hc i y hy; have hc' := hc' i y hy; have hlt2 : (i : Int) < (l.length : Int) := by omega
    clear hy; go_upto_region 6 with (fail)
    refine wp_calm (fun w' => zS w w' []) (by kernel_rfl) (by kernel_rfl) (HM.drew) ?_
    iterate 9 first | (apply calm_pass; rfl; intro K hK; go_simp; refine hK _ ?_; clear hK K) | (apply calm_step; rfl; (focus (intro w1 h1; have d0 := (World.cell?_of_block (h1.kept.block b hb id)).trans hc; have d1 := (World.cell?_of_block (h1.kept.block b' hb' id)).trans hc'; first | (go_simp; first | rfl | exact ⟨rfl, h1⟩))); intro K hK; go_simp; refine hK _ ?_; clear hK K)
    refine calm_nil ?_; intro w2 H2; go_wp2; go_roundw
    case rel =>
     exact ⟨i + 1, by omega, by go_num, H2⟩
    case measure => simp [intOf]; omega
  · obtain rfl : i = l.length := by omega
    go_wp2; go_ret; exact ⟨rfl, HM.below (Nat.le_refl _) (fun _ h => h.elim)⟩
theorem ref_agsame (g : Ag) {hv hv' : Value} (w : World) (hr : IntsRO w hv g.top) (hr' : IntsRO w hv' g.top) (hl : g.top.length ≤ 1073741824) (hx : g.x.natAbs < 2 ^ 53) (hy : g.y.natAbs < 2 ^ 53) :
    Calls Tryz.prog 67 #[agV g hv, agV g hv'] w fun e w' => e = .returned (.bool true) ∧ Below w.heap.size w w' := by
 have x1 := ib_self hx; have x2 := ib_self hy; obtain ⟨ad, cap, rfl, -, -, hic⟩ := hr; obtain ⟨ad', cap', rfl, -, -, hic'⟩ := hr'; have hich := zH hic; have hich' := zH hic'; clear hic hic'; obtain ⟨n, a, tp, x, y⟩ := g; unfold agV agC; simp only at x1 x2 hich hich' hl ⊢; clear hx hy; obtain ⟨X, hX⟩ := zNm (ib x); obtain ⟨Y, hY⟩ := zNm (ib y); simp only [hX, hY] at x1 x2 ⊢; clear hX hY; obtain ⟨b, hb⟩ := zNm w.heap.size; obtain ⟨b2, hb2⟩ := zNm (b + 1); have H0 : zS w _ [_] := (St.nil _ w).allocAt hb #[.int .i64 n, .int .i64 a, .slice ad tp.length cap, .complex .f64 X Y] 66; have H := H0.allocAt (B := b2) (by rw [← hb2, ← hb]; exact Array.size_push _) #[.int .i64 n, .int .i64 a, .slice ad' tp.length cap', .complex .f64 X Y] 66
 obtain ⟨w1, hw1⟩ := zNm ((w.alloc (.cells #[.int .i64 n, .int .i64 a, .slice ad tp.length cap, .complex .f64 X Y] 66)).alloc (.cells #[.int .i64 n, .int .i64 a, .slice ad' tp.length cap', .complex .f64 X Y] 66)); rw [hw1] at H
 go_enter Tryz.func67, Tryz.ntmps67
 go_upto_region 1 with (fail)
 (try simp only [hb, hb2]); (try rw [hw1]); have hbh := zH hb; clear hw1 hb hb2 H0; have H3 : zS w w1 [zdP b2 n a ad' tp.length cap' X Y, zdP b n a ad tp.length cap X Y] := H; clear H; have c0 := H3.cell 0 0 rfl rfl; have c1 := H3.cell 0 1 rfl rfl; have c2 := H3.cell 0 2 rfl rfl; have c3 := H3.cell 0 3 rfl rfl; have d0 := H3.cell 1 0 rfl rfl; have d1 := H3.cell 1 1 rfl rfl; have d2 := H3.cell 1 2 rfl rfl; have d3 := H3.cell 1 3 rfl rfl
 go_upto_block 1 with (fail)
 clear c0 c1 c2 c3 d0 d1 d2 d3
 go_loopw [5, 37] (fun _ j wr => ∃ (i : Nat), i ≤ tp.length ∧ j = .int .i64 i ∧ zS w wr [zdP b2 n a ad' tp.length cap' X Y, zdP b n a ad tp.length cap X Y]) (fun _ j _ => tp.length - (intOf j).toNat)
 case atStart => exact ⟨0, by omega, rfl, H3⟩
 case round =>
  clear H3; obtain ⟨i, hi, rfl, HM⟩ := hrel
  by_cases hlt : i < tp.length
  · obtain ⟨bb, o, rfl, hb, hc⟩ := hich.out (by intro e; rw [e] at hlt; simp at hlt)
    obtain ⟨bb', o', rfl, hb', hc'⟩ := hich'.out (by intro e; rw [e] at hlt; simp at hlt)
    obtain ⟨y, hy⟩ : ∃ y, tp[i]? = some y := ⟨_, List.getElem?_eq_getElem hlt⟩; have hc := hc i y hy; have hc' := hc' i y hy; have hlt2 : (i : Int) < (tp.length : Int) := by omega
    clear hy; go_upto_region 6 with (fail)
    refine wp_calm (fun w' => zS w w' [Blk b2 #[.int .i64 n, .int .i64 a, .slice (some ⟨bb', o', none⟩) tp.length cap', .complex .f64 X Y] 66, Blk b #[.int .i64 n, .int .i64 a, .slice (some ⟨bb, o, none⟩) tp.length cap, .complex .f64 X Y] 66]) (by kernel_rfl) (by kernel_rfl) (HM.drew) ?_
    iterate 11 first | (apply calm_pass; rfl; intro K hK; go_simp; refine hK _ ?_; clear hK K) | (apply calm_step; rfl; (focus (intro w1 h1; have d0 := (World.cell?_of_block (h1.kept.block bb hb id)).trans hc; have d1 := (World.cell?_of_block (h1.kept.block bb' hb' id)).trans hc'; have c2 := h1.cell 0 2 rfl rfl; have d2 := h1.cell 1 2 rfl rfl; first | (go_simp; first | rfl | exact ⟨rfl, h1⟩))); intro K hK; go_simp; refine hK _ ?_; clear hK K)
    refine calm_nil ?_; intro w2 H2; go_wp2; go_roundw
    case rel => exact ⟨i + 1, by omega, by go_num, H2⟩
    case measure => simp [intOf]; omega
  · obtain rfl : i = tp.length := by omega
    go_wp2; go_ret; exact ⟨rfl, HM.below (Nat.le_refl _) (fun _ h => h.elim)⟩
end Go.Proofs.YtiglgfonhdfpmaaGreat
