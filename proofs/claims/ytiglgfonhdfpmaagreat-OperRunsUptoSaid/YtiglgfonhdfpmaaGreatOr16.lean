import Derived.Test.YtiglgfonhdfpmaaGreatOr15
/- The document's Same of states and SameOuts, of the same ones. Condition: they fit. (Printed by a program of mine.) -/
set_option linter.unusedVariables false
set_option linter.unusedSimpArgs false
set_option maxHeartbeats 16000000
set_option maxRecDepth 100000
namespace Go.Proofs.YtiglgfonhdfpmaaGreat
open Go.RowKit
section
variable {P : Program} {S : Nat → Prop} {w0 w : World} {l : List SP}
theorem St.came_store (H : St S w0 w l) (i : Nat) {g : Nat} {old : Array Value} {t : TypeId} (hi' : l[i]? = some (Blk g old t)) {o : Oper} {a : Act} (ty : TypeId) (x y : Operand) (ho : o.op = .store ty x y)
    (cells : Array Value) (hx : a.eval x = .pointer (some ⟨g, 0, none⟩)) (hy : a.eval y = .agg cells) (hi : (P.info? ty).map (·.size) = some cells.size) (hn : 0 < cells.size) (hold : old.size = cells.size) (h1 : allOne cells = true)
    {V : Value → (World → Prop) → Prop} (h : ∀ w', St S w0 w' (l.set i (Blk g cells t)) → ∃ I', V undef I' ∧ I' w') : CameV P V ((execOp a.eval o).run P w) := by
 obtain ⟨dst, op, ty', pos, after, gd⟩ := o; simp only at ho; subst ho
 have hb : rowSize w g = cells.size := by
  unfold rowSize; rw [H.blk i hi']; exact hold
 have hr := run_store_at (P := P) (w := w) (a := a) (dst := dst) (ty' := ty') (pos := pos) (after := after) (g := gd) (t := ty) (x := x) (y := y) (n := cells.size) hi hn (by rw [hx]; rfl) (by rw [hx]; rfl) (by rw [hx]; exact hb) (by rw [hy]; rfl) (by rw [hy]; rfl) (by rw [hy]; exact h1)
 rw [hr, hx, hy]; exact h _ (H.setRow i hi' cells)
end
abbrev zbcP (a0) := (Blk a0 #[.string ⟨#[]⟩, .int .i64 0, .int .i64 0, .int .i64 0, .int .i64 0, .slice none 0 0, .complex .f64 0 0, .int .i64 0] 68 : SP)
theorem ref_same (s : Stt) {v v' : Value} (w : World) (hv : PnsRO w v s.panes) (hv' : PnsRO w v' s.panes) (hl : s.panes.length ≤ 1073741824) (hf : ∀ p ∈ s.panes, p.fits) :
    Calls Tryz.prog 24 #[.agg #[.int .i64 s.mark, v], .agg #[.int .i64 s.mark, v']] w fun e w' => e = .returned (.bool true) ∧ Below w.heap.size w w' := by
 obtain ⟨mk, l⟩ := s; simp only at hv hv' hl hf ⊢; obtain ⟨ms, hm, hic0, hro⟩ := hv; obtain ⟨ms', hm', hic0', hro'⟩ := hv'; obtain ⟨ao, cap, rfl, hcap, hic⟩ := hic0; obtain ⟨ao', cap', rfl, hcap', hic'⟩ := hic0'; have e1 : ms.length = l.length := by rw [← hm, List.length_map]
 have e2 : ms'.length = l.length := by rw [← hm', List.length_map]
 have ks := zH (fun (i : Nat) (m m' : Pm) (h1 : ms[i]? = some m) (h2 : ms'[i]? = some m') => by
  have a1 : l[i]? = some m.p := by rw [← hm, List.getElem?_map, h1]; rfl
  have a2 : l[i]? = some m'.p := by rw [← hm', List.getElem?_map, h2]; rfl
  have hp : m.p = m'.p := by rw [a1] at a2; exact Option.some.inj a2
  exact And.intro hp (And.intro (hro m (List.mem_of_getElem? h1)) (And.intro (hro' m' (List.mem_of_getElem? h2)) (hf m.p (List.mem_of_getElem? a1)))))
 have hich := zH hic; have hich' := zH hic'; rw [e1, e2]; have e1h := zH e1; have e2h := zH e2; clear hic hic' hro hro' hm hm' e1 e2 hf; obtain ⟨b, hb⟩ := zNm w.heap.size; obtain ⟨b2, hb2⟩ := zNm (b + 1); have H0 : zS w _ [_] := (St.nil _ w).allocAt hb #[.int .i64 mk, .slice ao l.length cap] 45; have H := H0.allocAt (B := b2) (by rw [← hb2, ← hb]; exact Array.size_push _) #[.int .i64 mk, .slice ao' l.length cap'] 45
 obtain ⟨w1, hw1⟩ := zNm ((w.alloc (.cells #[.int .i64 mk, .slice ao l.length cap] 45)).alloc (.cells #[.int .i64 mk, .slice ao' l.length cap'] 45)); rw [hw1] at H
 go_enter Tryz.func24, Tryz.ntmps24
 go_upto_region 1 with (fail)
 (try simp only [hb, hb2]); (try rw [hw1]); have hbh := zH hb; clear hw1 hb hb2 H0; have H3 : zS w w1 [zfP b2 mk ao' l.length cap', zfP b mk ao l.length cap] := H; have c0 := H3.cell 0 0 rfl rfl; have c1 := H3.cell 0 1 rfl rfl; have d0 := H3.cell 1 0 rfl rfl; have d1 := H3.cell 1 1 rfl rfl
 go_upto_block 1 with (fail)
 clear c0 c1 d0 d1 H
 go_loopw [5, 6, 7, 25] (fun _ _ _ j wr => ∃ (i : Nat), i ≤ l.length ∧ j = .int .i64 i ∧ zS w wr [zfP b2 mk ao' l.length cap', zfP b mk ao l.length cap]) (fun _ _ _ j _ => l.length - (intOf j).toNat)
 case atStart => exact ⟨0, by omega, rfl, H3⟩
 case round =>
  clear H3; obtain ⟨i, hi, rfl, HM⟩ := hrel
  by_cases hlt : i < l.length
  · have hlt1 : i < ms.length := by rw [e1h.out]; exact hlt
    have hlt2 : i < ms'.length := by rw [e2h.out]; exact hlt
    obtain ⟨bb, o, rfl, hb, hc⟩ := hich.out (by intro e; rw [e] at hlt1; simp at hlt1)
    obtain ⟨bb', o', rfl, hb', hc'⟩ := hich'.out (by intro e; rw [e] at hlt2; simp at hlt2)
    obtain ⟨y, hy⟩ : ∃ y, ms[i]? = some y := ⟨_, List.getElem?_eq_getElem hlt1⟩; obtain ⟨y', hy'⟩ : ∃ y, ms'[i]? = some y := ⟨_, List.getElem?_eq_getElem hlt2⟩; have hc := hc i y hy; have hc' := hc' i y' hy'; obtain ⟨hpp, ra, rb, hfit⟩ := ks.out i y y' hy hy'; have hlt3 : (i : Int) < (l.length : Int) := by omega
    clear hy hy' hlt1 hlt2; obtain ⟨P, xa, xc⟩ := y; obtain ⟨P', xa', xc'⟩ := y'; simp only at hpp; subst hpp; have kk := fun w' (hk : Kept (fun _ => False) w w') => ref_agsame P.g w' (ra.later hk) (rb.later hk) hfit.2.1 hfit.2.2.1 hfit.2.2.2
    clear ra rb hfit; obtain ⟨⟨xk, xf, xt⟩, ⟨gn, ga, gt, gx, gy⟩, xr⟩ := P; have hch := zH hc; have hch' := zH hc'; clear hc hc'
    try unfold agV agC at kk
    try unfold Pm.hd at kk
    simp only at kk; obtain ⟨X, hX⟩ := zNm (ib gx); obtain ⟨Y, hY⟩ := zNm (ib gy); simp only [hX, hY] at kk; go_upto_region 6 with (fail)
    refine wp_plan (.small 0 (.small 1 (.small 2 (.small 3 (.small 4 (.small 5 (.small 6 (.small 7 (.small 8 (.small 9 (.fork 10 11 (.alone 11 (.alone 12 (.alone 13 .nil))) (.alone 10 (.alone 12 (.alone 13 .nil)))))))))))))) (Fam fun w' => zS w w' [zrP b2 mk bb' o' l.length cap', zrP b mk bb o l.length cap]) (fun w' => zS w w' [zrP b2 mk bb' o' l.length cap', zrP b mk bb o l.length cap]) (by kernel_rfl) (by rfl) (by kernel_rfl) (by kernel_rfl) HM.drew (Fam.st (fun _ h => h.pick [0, 1])) ?_
    iterate 10 first | (apply plan_pass; rfl; rfl; intro K hK; go_simp; refine hK _ ?_; clear hK K) | (apply plan_step; rfl; rfl; (focus (intro I hI w1 h1'; have h1 := hI.2 _ h1'; have c1 := h1.cell 0 1 rfl rfl; have d1 := h1.cell 1 1 rfl rfl; obtain ⟨q0, q1, q2, q3, q4, q5, q6, q7⟩ := pn_cells hch.out (h1.kept.block bb hb id); obtain ⟨r0, r1, r2, r3, r4, r5, r6, r7⟩ := pn_cells hch'.out (h1.kept.block bb' hb' id); simp only at q0 q1 q2 q3 q4 q5 q6 q7 r0 r1 r2 r3 r4 r5 r6 r7; unfold textV at q0 r0; try unfold Pm.hd at q5 r5; try simp only at q5 r5; simp only [hX, hY] at q6 r6; first | (go_simp; first | rfl | exact ⟨rfl, h1'⟩))); intro K hK; go_simp; refine hK _ ?_; clear hK K)
    refine plan_two rfl rfl rfl rfl ?_ ?_
    · skip
      intro V hV w1 h1
      go_simp
      obtain ⟨yb, hyb⟩ := zNm w1.heap.size; have HX : zS w _ [zbcP yb, zrP b2 mk bb' o' l.length cap', zrP b mk bb o l.length cap] := h1.allocAt hyb #[.string ⟨#[]⟩, .int .i64 0, .int .i64 0, .int .i64 0, .int .i64 0, .slice none 0 0, .complex .f64 0 0, .int .i64 0] 68; simp only [hyb]; refine ⟨fun w' => zS w w' [zbcP yb, zrP b2 mk bb' o' l.length cap', zrP b mk bb o l.length cap], hV _ _ _ (fun _ h => h) (Fam.st (fun _ h => h.pick [1, 2])) ?_, HX⟩
      intro K hK
      go_simp
      refine hK _ ?_; clear hK K hV V; clear HX h1 hyb w1; refine plan_one rfl rfl ?_; intro V hV w1 h1
      go_simp
      obtain ⟨zb, hzb⟩ := zNm w1.heap.size; have HX : zS w _ [zbcP zb, zbcP yb, zrP b2 mk bb' o' l.length cap', zrP b mk bb o l.length cap] := h1.allocAt hzb #[.string ⟨#[]⟩, .int .i64 0, .int .i64 0, .int .i64 0, .int .i64 0, .slice none 0 0, .complex .f64 0 0, .int .i64 0] 68; simp only [hzb]; refine ⟨fun w' => zS w w' [zbcP zb, zbcP yb, zrP b2 mk bb' o' l.length cap', zrP b mk bb o l.length cap], hV _ _ _ (fun _ h => h) (Fam.st (fun _ h => h.pick [2, 3])) ?_, HX⟩
      intro K hK
      go_simp
      refine hK _ ?_; clear hK K hV V; clear HX h1 hzb w1; refine plan_one rfl rfl ?_; intro V hV w1 h1; refine h1.came_store 1 rfl 68 (.tmp 6) (.tmp 32) rfl #[.string ⟨xk.toArray⟩, .int .i64 xf, .int .i64 xt, .int .i64 gn, .int .i64 ga, .slice xa gt.length xc, .complex .f64 X Y, .int .i64 xr] rfl rfl (by kernel_rfl) (Nat.zero_lt_succ _) rfl (by simp [allOne, Value.oneCell']) ?_
      intro w2 HX; refine ⟨fun w' => zS w w' [zbcP zb, zbP yb xk.toArray xf xt gn ga xa gt.length xc X Y xr, zrP b2 mk bb' o' l.length cap', zrP b mk bb o l.length cap], hV _ _ _ (fun _ h => h) (Fam.st (fun _ h => h.pick [2, 3])) ?_, HX⟩
      intro K hK
      go_simp
      refine hK _ ?_; clear hK K hV V; clear HX h1 w1 w2; refine plan_one rfl rfl ?_; intro V hV w1 h1; refine h1.came_store 0 rfl 68 (.tmp 7) (.tmp 37) rfl #[.string ⟨xk.toArray⟩, .int .i64 xf, .int .i64 xt, .int .i64 gn, .int .i64 ga, .slice xa' gt.length xc', .complex .f64 X Y, .int .i64 xr] rfl rfl (by kernel_rfl) (Nat.zero_lt_succ _) rfl (by simp [allOne, Value.oneCell']) ?_
      intro w2 HX; refine ⟨fun w' => zS w w' [zbP zb xk.toArray xf xt gn ga xa' gt.length xc' X Y xr, zbP yb xk.toArray xf xt gn ga xa gt.length xc X Y xr, zrP b2 mk bb' o' l.length cap', zrP b mk bb o l.length cap], hV _ _ _ (fun _ h => h) (Fam.st (fun _ h => h.pick [2, 3])) ?_, HX⟩
      intro K hK
      go_simp
      refine hK _ ?_; clear hK K hV V; clear HX h1 w1 w2; refine plan_nil ?_; intro w9 H9; have c0 := H9.cell 0 0 rfl rfl; have d0 := H9.cell 1 0 rfl rfl; have c1 := H9.cell 0 1 rfl rfl; have d1 := H9.cell 1 1 rfl rfl; have c2 := H9.cell 0 2 rfl rfl; have d2 := H9.cell 1 2 rfl rfl; have c3 := H9.cell 0 3 rfl rfl; have d3 := H9.cell 1 3 rfl rfl; have c4 := H9.cell 0 4 rfl rfl; have d4 := H9.cell 1 4 rfl rfl; have c5 := H9.cell 0 5 rfl rfl; have d5 := H9.cell 1 5 rfl rfl; have c6 := H9.cell 0 6 rfl rfl; have d6 := H9.cell 1 6 rfl rfl; have c7 := H9.cell 0 7 rfl rfl; have d7 := H9.cell 1 7 rfl rfl
      go_wp2_with (go_at_call 67; go_must (refine (St.callPast (kk _ H9.kept) H9).mono ?_; rintro e w3 ⟨rfl, H10⟩))
      go_roundw
      case rel => exact ⟨i + 1, by omega, by go_num, H10.pick [2, 3]⟩
      case measure => simp [intOf]; omega
    · skip
      intro V hV w1 h1
      go_simp
      obtain ⟨zb, hzb⟩ := zNm w1.heap.size; have HX : zS w _ [zbcP zb, zrP b2 mk bb' o' l.length cap', zrP b mk bb o l.length cap] := h1.allocAt hzb #[.string ⟨#[]⟩, .int .i64 0, .int .i64 0, .int .i64 0, .int .i64 0, .slice none 0 0, .complex .f64 0 0, .int .i64 0] 68; simp only [hzb]; refine ⟨fun w' => zS w w' [zbcP zb, zrP b2 mk bb' o' l.length cap', zrP b mk bb o l.length cap], hV _ _ _ (fun _ h => h) (Fam.st (fun _ h => h.pick [1, 2])) ?_, HX⟩
      intro K hK
      go_simp
      refine hK _ ?_; clear hK K hV V; clear HX h1 hzb w1; refine plan_one rfl rfl ?_; intro V hV w1 h1
      go_simp
      obtain ⟨yb, hyb⟩ := zNm w1.heap.size; have HX : zS w _ [zbcP yb, zbcP zb, zrP b2 mk bb' o' l.length cap', zrP b mk bb o l.length cap] := h1.allocAt hyb #[.string ⟨#[]⟩, .int .i64 0, .int .i64 0, .int .i64 0, .int .i64 0, .slice none 0 0, .complex .f64 0 0, .int .i64 0] 68; simp only [hyb]; refine ⟨fun w' => zS w w' [zbcP yb, zbcP zb, zrP b2 mk bb' o' l.length cap', zrP b mk bb o l.length cap], hV _ _ _ (fun _ h => h) (Fam.st (fun _ h => h.pick [2, 3])) ?_, HX⟩
      intro K hK
      go_simp
      refine hK _ ?_; clear hK K hV V; clear HX h1 hyb w1; refine plan_one rfl rfl ?_; intro V hV w1 h1; refine h1.came_store 0 rfl 68 (.tmp 6) (.tmp 32) rfl #[.string ⟨xk.toArray⟩, .int .i64 xf, .int .i64 xt, .int .i64 gn, .int .i64 ga, .slice xa gt.length xc, .complex .f64 X Y, .int .i64 xr] rfl rfl (by kernel_rfl) (Nat.zero_lt_succ _) rfl (by simp [allOne, Value.oneCell']) ?_
      intro w2 HX; refine ⟨fun w' => zS w w' [zbP yb xk.toArray xf xt gn ga xa gt.length xc X Y xr, zbcP zb, zrP b2 mk bb' o' l.length cap', zrP b mk bb o l.length cap], hV _ _ _ (fun _ h => h) (Fam.st (fun _ h => h.pick [2, 3])) ?_, HX⟩
      intro K hK
      go_simp
      refine hK _ ?_; clear hK K hV V; clear HX h1 w1 w2; refine plan_one rfl rfl ?_; intro V hV w1 h1; refine h1.came_store 1 rfl 68 (.tmp 7) (.tmp 37) rfl #[.string ⟨xk.toArray⟩, .int .i64 xf, .int .i64 xt, .int .i64 gn, .int .i64 ga, .slice xa' gt.length xc', .complex .f64 X Y, .int .i64 xr] rfl rfl (by kernel_rfl) (Nat.zero_lt_succ _) rfl (by simp [allOne, Value.oneCell']) ?_
      intro w2 HX; refine ⟨fun w' => zS w w' [zbP yb xk.toArray xf xt gn ga xa gt.length xc X Y xr, zbP zb xk.toArray xf xt gn ga xa' gt.length xc' X Y xr, zrP b2 mk bb' o' l.length cap', zrP b mk bb o l.length cap], hV _ _ _ (fun _ h => h) (Fam.st (fun _ h => h.pick [2, 3])) ?_, HX⟩
      intro K hK
      go_simp
      refine hK _ ?_; clear hK K hV V; clear HX h1 w1 w2; refine plan_nil ?_; intro w9 H9; have c0 := H9.cell 0 0 rfl rfl; have d0 := H9.cell 1 0 rfl rfl; have c1 := H9.cell 0 1 rfl rfl; have d1 := H9.cell 1 1 rfl rfl; have c2 := H9.cell 0 2 rfl rfl; have d2 := H9.cell 1 2 rfl rfl; have c3 := H9.cell 0 3 rfl rfl; have d3 := H9.cell 1 3 rfl rfl; have c4 := H9.cell 0 4 rfl rfl; have d4 := H9.cell 1 4 rfl rfl; have c5 := H9.cell 0 5 rfl rfl; have d5 := H9.cell 1 5 rfl rfl; have c6 := H9.cell 0 6 rfl rfl; have d6 := H9.cell 1 6 rfl rfl; have c7 := H9.cell 0 7 rfl rfl; have d7 := H9.cell 1 7 rfl rfl
      go_wp2_with (go_at_call 67; go_must (refine (St.callPast (kk _ H9.kept) H9).mono ?_; rintro e w3 ⟨rfl, H10⟩))
      go_roundw
      case rel => exact ⟨i + 1, by omega, by go_num, H10.pick [2, 3]⟩
      case measure => simp [intOf]; omega
  · obtain rfl : i = l.length := by omega
    go_wp2; go_ret; exact ⟨rfl, HM.below (Nat.le_refl _) (fun _ h => h.elim)⟩
abbrev zyP (a0) := (Blk a0 #[.bool false, .int .i64 0, .string ⟨#[]⟩, .int .i64 0, .int .i64 0, .string ⟨#[]⟩, .int .i64 0, .int .i64 0, .int .i64 0, .slice none 0 0] 63 : SP)
theorem ref_outs {v v' : Value} {l : List Ot} (w : World) (hv : OtsRO w v l) (hv' : OtsRO w v' l) (hl : l.length ≤ 1073741824) (hf : ∀ p ∈ l, p.value.length ≤ 1073741824) :
    Calls Tryz.prog 25 #[v, v'] w fun e w' => e = .returned (.bool true) ∧ Below w.heap.size w w' := by
 obtain ⟨ms, hm, hic0, hro⟩ := hv; obtain ⟨ms', hm', hic0', hro'⟩ := hv'; obtain ⟨ao, cap, rfl, hcap, hic⟩ := hic0; obtain ⟨ao', cap', rfl, hcap', hic'⟩ := hic0'; have e1 : ms.length = l.length := by rw [← hm, List.length_map]
 have e2 : ms'.length = l.length := by rw [← hm', List.length_map]
 have ks := zH (fun (i : Nat) (m m' : Om) (h1 : ms[i]? = some m) (h2 : ms'[i]? = some m') => by
  have a1 : l[i]? = some m.o := by rw [← hm, List.getElem?_map, h1]; rfl
  have a2 : l[i]? = some m'.o := by rw [← hm', List.getElem?_map, h2]; rfl
  have hp : m.o = m'.o := by rw [a1] at a2; exact Option.some.inj a2
  exact And.intro hp (And.intro (hro m (List.mem_of_getElem? h1)) (And.intro (hro' m' (List.mem_of_getElem? h2)) (hf m.o (List.mem_of_getElem? a1)))))
 have hich := zH hic; have hich' := zH hic'; rw [e1, e2]; have e1h := zH e1; have e2h := zH e2; clear hic hic' hro hro' hm hm' e1 e2 hf; have H3 : zS w w [] := St.nil _ w
 go_enter Tryz.func25, Tryz.ntmps25
 go_upto_block 1 with (fail)
 go_loopw [5, 6, 7, 15] (fun _ _ _ j wr => ∃ (i : Nat), i ≤ l.length ∧ j = .int .i64 i ∧ zS w wr []) (fun _ _ _ j _ => l.length - (intOf j).toNat)
 case atStart => exact ⟨0, by omega, rfl, H3⟩
 case round =>
  clear H3; obtain ⟨i, hi, rfl, HM⟩ := hrel
  by_cases hlt : i < l.length
  · have hlt1 : i < ms.length := by rw [e1h.out]; exact hlt
    have hlt2 : i < ms'.length := by rw [e2h.out]; exact hlt
    obtain ⟨bb, o, rfl, hb, hc⟩ := hich.out (by intro e; rw [e] at hlt1; simp at hlt1)
    obtain ⟨bb', o', rfl, hb', hc'⟩ := hich'.out (by intro e; rw [e] at hlt2; simp at hlt2)
    obtain ⟨y, hy⟩ : ∃ y, ms[i]? = some y := ⟨_, List.getElem?_eq_getElem hlt1⟩; obtain ⟨y', hy'⟩ : ∃ y, ms'[i]? = some y := ⟨_, List.getElem?_eq_getElem hlt2⟩; have hc := hc i y hy; have hc' := hc' i y' hy'; obtain ⟨hpp, ra, rb, hfit⟩ := ks.out i y y' hy hy'; have hlt3 : (i : Int) < (l.length : Int) := by omega
    clear hy hy' hlt1 hlt2; obtain ⟨P, xa, xc⟩ := y; obtain ⟨P', xa', xc'⟩ := y'; simp only at hpp; subst hpp; have kk := fun w' (hk : Kept (fun _ => False) w w') => ref_ints (ra.later hk) (rb.later hk) hfit
    clear ra rb hfit; obtain ⟨ol, ⟨ik, iy, it, iv⟩, ⟨xk, xf, xt⟩, xr, vs⟩ := P; have hch := zH hc; have hch' := zH hc'; clear hc hc'
    try unfold agV agC at kk
    try unfold Om.hd at kk
    simp only at kk; go_upto_region 6 with (fail)
    refine wp_plan (.small 0 (.small 1 (.small 2 (.small 3 (.small 4 (.small 5 (.small 6 (.small 7 (.fork 8 9 (.alone 9 (.alone 10 (.alone 11 .nil))) (.alone 8 (.alone 10 (.alone 11 .nil)))))))))))) (Fam fun w' => zS w w' []) (fun w' => zS w w' []) (by kernel_rfl) (by rfl) (by kernel_rfl) (by kernel_rfl) HM.drew (Fam.st (fun _ h => h.pick [])) ?_
    iterate 8 first | (apply plan_pass; rfl; rfl; intro K hK; go_simp; refine hK _ ?_; clear hK K) | (apply plan_step; rfl; rfl; (focus (intro I hI w1 h1'; have h1 := hI.2 _ h1'; obtain ⟨q0, q1, q2, q3, q4, q5, q6, q7, q8, q9⟩ := ot_cells hch.out (h1.kept.block bb hb id); obtain ⟨r0, r1, r2, r3, r4, r5, r6, r7, r8, r9⟩ := ot_cells hch'.out (h1.kept.block bb' hb' id); simp only at q0 q1 q2 q3 q4 q5 q6 q7 q8 q9 r0 r1 r2 r3 r4 r5 r6 r7 r8 r9; unfold textV at q2 q5 r2 r5; try unfold Om.hd at q9 r9; try simp only at q9 r9; first | (go_simp; first | rfl | exact ⟨rfl, h1'⟩))); intro K hK; go_simp; refine hK _ ?_; clear hK K)
    refine plan_two rfl rfl rfl rfl ?_ ?_
    · skip
      intro V hV w1 h1
      go_simp
      obtain ⟨yb, hyb⟩ := zNm w1.heap.size; have HX : zS w _ [zyP yb] := h1.allocAt hyb #[.bool false, .int .i64 0, .string ⟨#[]⟩, .int .i64 0, .int .i64 0, .string ⟨#[]⟩, .int .i64 0, .int .i64 0, .int .i64 0, .slice none 0 0] 63; simp only [hyb]; refine ⟨fun w' => zS w w' [zyP yb], hV _ _ _ (fun _ h => h) (Fam.st (fun _ h => h.pick [])) ?_, HX⟩
      intro K hK
      go_simp
      refine hK _ ?_; clear hK K hV V; clear HX h1 hyb w1; refine plan_one rfl rfl ?_; intro V hV w1 h1
      go_simp
      obtain ⟨zb, hzb⟩ := zNm w1.heap.size; have HX : zS w _ [zyP zb, zyP yb] := h1.allocAt hzb #[.bool false, .int .i64 0, .string ⟨#[]⟩, .int .i64 0, .int .i64 0, .string ⟨#[]⟩, .int .i64 0, .int .i64 0, .int .i64 0, .slice none 0 0] 63; simp only [hzb]; refine ⟨fun w' => zS w w' [zyP zb, zyP yb], hV _ _ _ (fun _ h => h) (Fam.st (fun _ h => h.pick [])) ?_, HX⟩
      intro K hK
      go_simp
      refine hK _ ?_; clear hK K hV V; clear HX h1 hzb w1; refine plan_one rfl rfl ?_; intro V hV w1 h1; refine h1.came_store 1 rfl 63 (.tmp 6) (.tmp 21) rfl #[.bool ol, .int .i64 ik, .string ⟨iy.toArray⟩, .int .i64 it, .int .i64 iv, .string ⟨xk.toArray⟩, .int .i64 xf, .int .i64 xt, .int .i64 xr, .slice xa vs.length xc] rfl rfl (by kernel_rfl) (Nat.zero_lt_succ _) rfl (by simp [allOne, Value.oneCell']) ?_
      intro w2 HX; refine ⟨fun w' => zS w w' [zyP zb, zbbP yb ol ik iy.toArray it iv xk.toArray xf xt xr xa vs.length xc], hV _ _ _ (fun _ h => h) (Fam.st (fun _ h => h.pick [])) ?_, HX⟩
      intro K hK
      go_simp
      refine hK _ ?_; clear hK K hV V; clear HX h1 w1 w2; refine plan_one rfl rfl ?_; intro V hV w1 h1; refine h1.came_store 0 rfl 63 (.tmp 7) (.tmp 25) rfl #[.bool ol, .int .i64 ik, .string ⟨iy.toArray⟩, .int .i64 it, .int .i64 iv, .string ⟨xk.toArray⟩, .int .i64 xf, .int .i64 xt, .int .i64 xr, .slice xa' vs.length xc'] rfl rfl (by kernel_rfl) (Nat.zero_lt_succ _) rfl (by simp [allOne, Value.oneCell']) ?_
      intro w2 HX; refine ⟨fun w' => zS w w' [zbbP zb ol ik iy.toArray it iv xk.toArray xf xt xr xa' vs.length xc', zbbP yb ol ik iy.toArray it iv xk.toArray xf xt xr xa vs.length xc], hV _ _ _ (fun _ h => h) (Fam.st (fun _ h => h.pick [])) ?_, HX⟩
      intro K hK
      go_simp
      refine hK _ ?_; clear hK K hV V; clear HX h1 w1 w2; refine plan_nil ?_; intro w9 H9; have c0 := H9.cell 0 0 rfl rfl; have d0 := H9.cell 1 0 rfl rfl; have c1 := H9.cell 0 1 rfl rfl; have d1 := H9.cell 1 1 rfl rfl; have c2 := H9.cell 0 2 rfl rfl; have d2 := H9.cell 1 2 rfl rfl; have c3 := H9.cell 0 3 rfl rfl; have d3 := H9.cell 1 3 rfl rfl; have c4 := H9.cell 0 4 rfl rfl; have d4 := H9.cell 1 4 rfl rfl; have c5 := H9.cell 0 5 rfl rfl; have d5 := H9.cell 1 5 rfl rfl; have c6 := H9.cell 0 6 rfl rfl; have d6 := H9.cell 1 6 rfl rfl; have c7 := H9.cell 0 7 rfl rfl; have d7 := H9.cell 1 7 rfl rfl; have c8 := H9.cell 0 8 rfl rfl; have d8 := H9.cell 1 8 rfl rfl; have c9 := H9.cell 0 9 rfl rfl; have d9 := H9.cell 1 9 rfl rfl
      go_wp2_with (go_at_call 30; go_must (refine (St.callPast (kk _ H9.kept) H9).mono ?_; rintro e w3 ⟨rfl, H10⟩))
      go_roundw
      case rel => exact ⟨i + 1, by omega, by go_num, H10.pick []⟩
      case measure => simp [intOf]; omega
    · skip
      intro V hV w1 h1
      go_simp
      obtain ⟨zb, hzb⟩ := zNm w1.heap.size; have HX : zS w _ [zyP zb] := h1.allocAt hzb #[.bool false, .int .i64 0, .string ⟨#[]⟩, .int .i64 0, .int .i64 0, .string ⟨#[]⟩, .int .i64 0, .int .i64 0, .int .i64 0, .slice none 0 0] 63; simp only [hzb]; refine ⟨fun w' => zS w w' [zyP zb], hV _ _ _ (fun _ h => h) (Fam.st (fun _ h => h.pick [])) ?_, HX⟩
      intro K hK
      go_simp
      refine hK _ ?_; clear hK K hV V; clear HX h1 hzb w1; refine plan_one rfl rfl ?_; intro V hV w1 h1
      go_simp
      obtain ⟨yb, hyb⟩ := zNm w1.heap.size; have HX : zS w _ [zyP yb, zyP zb] := h1.allocAt hyb #[.bool false, .int .i64 0, .string ⟨#[]⟩, .int .i64 0, .int .i64 0, .string ⟨#[]⟩, .int .i64 0, .int .i64 0, .int .i64 0, .slice none 0 0] 63; simp only [hyb]; refine ⟨fun w' => zS w w' [zyP yb, zyP zb], hV _ _ _ (fun _ h => h) (Fam.st (fun _ h => h.pick [])) ?_, HX⟩
      intro K hK
      go_simp
      refine hK _ ?_; clear hK K hV V; clear HX h1 hyb w1; refine plan_one rfl rfl ?_; intro V hV w1 h1; refine h1.came_store 0 rfl 63 (.tmp 6) (.tmp 21) rfl #[.bool ol, .int .i64 ik, .string ⟨iy.toArray⟩, .int .i64 it, .int .i64 iv, .string ⟨xk.toArray⟩, .int .i64 xf, .int .i64 xt, .int .i64 xr, .slice xa vs.length xc] rfl rfl (by kernel_rfl) (Nat.zero_lt_succ _) rfl (by simp [allOne, Value.oneCell']) ?_
      intro w2 HX; refine ⟨fun w' => zS w w' [zbbP yb ol ik iy.toArray it iv xk.toArray xf xt xr xa vs.length xc, zyP zb], hV _ _ _ (fun _ h => h) (Fam.st (fun _ h => h.pick [])) ?_, HX⟩
      intro K hK
      go_simp
      refine hK _ ?_; clear hK K hV V; clear HX h1 w1 w2; refine plan_one rfl rfl ?_; intro V hV w1 h1; refine h1.came_store 1 rfl 63 (.tmp 7) (.tmp 25) rfl #[.bool ol, .int .i64 ik, .string ⟨iy.toArray⟩, .int .i64 it, .int .i64 iv, .string ⟨xk.toArray⟩, .int .i64 xf, .int .i64 xt, .int .i64 xr, .slice xa' vs.length xc'] rfl rfl (by kernel_rfl) (Nat.zero_lt_succ _) rfl (by simp [allOne, Value.oneCell']) ?_
      intro w2 HX; refine ⟨fun w' => zS w w' [zbbP yb ol ik iy.toArray it iv xk.toArray xf xt xr xa vs.length xc, zbbP zb ol ik iy.toArray it iv xk.toArray xf xt xr xa' vs.length xc'], hV _ _ _ (fun _ h => h) (Fam.st (fun _ h => h.pick [])) ?_, HX⟩
      intro K hK
      go_simp
      refine hK _ ?_; clear hK K hV V; clear HX h1 w1 w2; refine plan_nil ?_; intro w9 H9; have c0 := H9.cell 0 0 rfl rfl; have d0 := H9.cell 1 0 rfl rfl; have c1 := H9.cell 0 1 rfl rfl; have d1 := H9.cell 1 1 rfl rfl; have c2 := H9.cell 0 2 rfl rfl; have d2 := H9.cell 1 2 rfl rfl; have c3 := H9.cell 0 3 rfl rfl; have d3 := H9.cell 1 3 rfl rfl; have c4 := H9.cell 0 4 rfl rfl; have d4 := H9.cell 1 4 rfl rfl; have c5 := H9.cell 0 5 rfl rfl; have d5 := H9.cell 1 5 rfl rfl; have c6 := H9.cell 0 6 rfl rfl; have d6 := H9.cell 1 6 rfl rfl; have c7 := H9.cell 0 7 rfl rfl; have d7 := H9.cell 1 7 rfl rfl; have c8 := H9.cell 0 8 rfl rfl; have d8 := H9.cell 1 8 rfl rfl; have c9 := H9.cell 0 9 rfl rfl; have d9 := H9.cell 1 9 rfl rfl
      go_wp2_with (go_at_call 30; go_must (refine (St.callPast (kk _ H9.kept) H9).mono ?_; rintro e w3 ⟨rfl, H10⟩))
      go_roundw
      case rel => exact ⟨i + 1, by omega, by go_num, H10.pick []⟩
      case measure => simp [intOf]; omega
  · obtain rfl : i = l.length := by omega
    go_wp2; go_ret; exact ⟨rfl, HM.below (Nat.le_refl _) (fun _ h => h.elim)⟩
end Go.Proofs.YtiglgfonhdfpmaaGreat
namespace Go.Proofs.YtiglgfonhdfpmaaGreat
open Go.RowKit
theorem ref_has {v : Value} {l : List Wd} (x : Wd) {w : World} (hv : WdsRO w v l) (hl : l.length ≤ 1073741824) :
    Calls Tryz.prog 181 #[v, wdV x] w fun e w' => e = .returned (.bool (l.contains x)) ∧ Below w.heap.size w w' := by
 obtain ⟨ao, cap, rfl, hcap, hfit, hic⟩ := hv; have hich := zH hic; clear hic hfit; obtain ⟨xk, xf, xt⟩ := x; have H0 : zS w _ [_] := (St.nil (fun _ => False) w).allocAt rfl #[.string ⟨xk.toArray⟩, .int .i64 xf, .int .i64 xt] 61
 unfold wdV wdC textV; simp only
 go_enter Tryz.func181, Tryz.ntmps181
 go_upto_block 1 with (fail)
 obtain ⟨wb, hwb⟩ := zNm (w.alloc (.cells #[.string ⟨xk.toArray⟩, .int .i64 xf, .int .i64 xt] 61)); obtain ⟨xb, hxb⟩ := zNm w.heap.size; rw [hwb, hxb] at H0; (try rw [hwb]); (try simp only [hxb]); have H1 : zS w wb [zcP xb xk.toArray xf xt] := H0; have hxbh := zH hxb; clear hwb hxb H0
 go_loopw [6, 9] (fun _ j wr => ∃ (i : Nat), i ≤ l.length ∧ j = .int .i64 i ∧ Hid (∀ y ∈ l.take i, y ≠ ⟨xk, xf, xt⟩) ∧ zS w wr [zcP xb xk.toArray xf xt]) (fun _ j _ => l.length - (intOf j).toNat)
 case atStart => exact ⟨0, by omega, rfl, zH (by simp), H1⟩
 case round =>
  clear H1; obtain ⟨i, hi, rfl, hno, HM⟩ := hrel
  by_cases hlt : i < l.length
  · obtain ⟨b, o, rfl, hb, hc⟩ := hich.out (by intro e; rw [e] at hlt; simp at hlt)
    obtain ⟨y, hy⟩ : ∃ y, l[i]? = some y := ⟨_, List.getElem?_eq_getElem hlt⟩; obtain ⟨p0, p1, p2⟩ := wd_cells (hc i y hy) (HM.kept.block b hb id); have hyh := zH hy; have hlt2 : (i : Int) < (l.length : Int) := by omega
    have hsn := zH (take_snoc' hy); clear hy hc; obtain ⟨yk, yf, yt⟩ := y; unfold textV at p0; simp only at p0 p1 p2; have HA : zS w _ (_ :: _) := HM.allocAt rfl #[.string ⟨yk.toArray⟩, .int .i64 yf, .int .i64 yt] 61; go_upto_region 4 with (fail)
    obtain ⟨wc, hwc⟩ := zNm (wr.alloc (.cells #[.string ⟨yk.toArray⟩, .int .i64 yf, .int .i64 yt] 61)); obtain ⟨yb, hyb⟩ := zNm wr.heap.size; rw [hwc, hyb] at HA; (try rw [hwc]); (try simp only [hyb]); have HB : zS w wc [zcP yb yk.toArray yf yt, zcP xb xk.toArray xf xt] := HA; clear hwc hyb p0 p1 p2 HA HM; have c0 := HB.cell 0 0 rfl rfl; have c1 := HB.cell 0 1 rfl rfl; have c2 := HB.cell 0 2 rfl rfl; have d0 := HB.cell 1 0 rfl rfl; have d1 := HB.cell 1 1 rfl rfl; have d2 := HB.cell 1 2 rfl rfl
    by_cases hall : yk = xk ∧ yf = xf ∧ yt = xt
    · obtain ⟨rfl, rfl, rfl⟩ := hall; have hct : l.contains ⟨yk, yf, yt⟩ = true := List.contains_iff_mem.2 (List.mem_of_getElem? hyh.out); have hcth := zH hct; clear hct; go_wp2; go_ret; rw [hcth.out]; exact ⟨rfl, HB.below (Nat.le_refl _) (fun _ h => h.elim)⟩
    · have hne := zH (show (⟨yk, yf, yt⟩ : Wd) ≠ ⟨xk, xf, xt⟩ from fun e => hall (by cases e; exact ⟨rfl, rfl, rfl⟩))
      have h3 : (¬ yk = xk) ∨ (yk = xk ∧ ¬ yf = xf) ∨ (yk = xk ∧ yf = xf ∧ ¬ yt = xt) := by
       by_cases h1 : yk = xk
       · by_cases h2 : yf = xf
         · exact .inr (.inr ⟨h1, h2, fun h3 => hall ⟨h1, h2, h3⟩⟩)
         · exact .inr (.inl ⟨h1, h2⟩)
       · exact .inl h1
      clear hall; rcases h3 with h3 | ⟨rfl, h3⟩ | ⟨rfl, rfl, h3⟩
      all_goals
       go_wp2; go_roundw
       case rel =>
        refine ⟨i + 1, by omega, by go_num, zH ?_, HB.pick [1]⟩
        rw [hsn.out]; intro y hy; rcases List.mem_append.1 hy with hy | hy
        · exact hno.out y hy
        · rw [List.mem_singleton.1 hy]; exact hne.out
       case measure => simp [intOf]; omega
  · obtain rfl : i = l.length := by omega
    have hnoh := hno.out; rw [List.take_length] at hnoh
    have hct : l.contains ⟨xk, xf, xt⟩ = false := by
     rw [Bool.eq_false_iff]; intro h; exact hnoh _ (List.contains_iff_mem.1 h) rfl
    go_wp2; go_ret; rw [hct]; exact ⟨rfl, HM.below (Nat.le_refl _) (fun _ h => h.elim)⟩
end Go.Proofs.YtiglgfonhdfpmaaGreat
namespace Go.Proofs.YtiglgfonhdfpmaaGreat
open Go.RowKit
theorem ref_windows {v : Value} {ms : List Pm} {w : World} (hv : encP.RO w v ms) (hl : ms.length ≤ 1073741824) :
    Calls Tryz.prog 184 #[v] w fun e w' => ∃ v', e = .returned v' ∧ zS w w' [Row 61 3 v' ms.length (wds (ms.map (·.p.w)))] := by
 obtain ⟨ao, cap, rfl, hcap, hic⟩ := hv; have H0 : zS w w [Row 61 3 (.slice none 0 0) 0 (wds (([] : List Pm).map (·.p.w)))] := (St.nil _ w).row_nil 61 3; have hich := zH hic; clear hic
 go_enter Tryz.func184, Tryz.ntmps184
 go_upto_block 1 with (fail)
 go_loopw [3, 5, 8] (fun u _ j wr => ∃ (i : Nat), i ≤ ms.length ∧ j = .int .i64 i ∧ zS w wr [Row 61 3 u i (wds ((ms.take i).map (·.p.w)))]) (fun _ _ j _ => ms.length - (intOf j).toNat)
 case atStart => exact ⟨0, by omega, rfl, H0⟩
 case round =>
  clear H0; obtain ⟨i, hi, rfl, HM⟩ := hrel
  by_cases hlt : i < ms.length
  · obtain ⟨b, o, rfl, hb, hc⟩ := hich.out (by intro e; rw [e] at hlt; simp at hlt)
    obtain ⟨x, hx⟩ : ∃ x, ms[i]? = some x := ⟨_, List.getElem?_eq_getElem hlt⟩; have hc := hc i x hx; obtain ⟨q0, q1, q2, q3, q4, q5, q6, q7⟩ := pn_cells hc (HM.kept.block b hb id); have hsn : (ms.take (i + 1)).map (·.p.w) = (ms.take i).map (·.p.w) ++ [x.p.w] := by rw [take_snoc' hx]; simp
    have hsnh := zH hsn; clear hx hc hsn; obtain ⟨⟨⟨xk, xf, xt⟩, ⟨gn, ga, gt, gx, gy⟩, xr⟩, xa, xc⟩ := x; unfold textV at q0; unfold Pm.hd at q5; simp only at q0 q1 q2 q3 q4 q5 q6 q7 hsnh; have HA : zS w _ [_, _] := HM.allocAt rfl #[.string ⟨xk.toArray⟩, .int .i64 xf, .int .i64 xt, .int .i64 gn, .int .i64 ga, .slice xa gt.length xc, .complex .f64 (ib gx) (ib gy), .int .i64 xr] 68; go_upto_region 5 with (fail)
    obtain ⟨wb, hwb⟩ := zNm (wr.alloc (.cells #[.string ⟨xk.toArray⟩, .int .i64 xf, .int .i64 xt, .int .i64 gn, .int .i64 ga, .slice xa gt.length xc, .complex .f64 (ib gx) (ib gy), .int .i64 xr] 68)); obtain ⟨yb, hyb⟩ := zNm wr.heap.size; rw [hwb, hyb] at HA; (try rw [hwb]); (try simp only [hyb]); have HA2 : zS w wb [zbfP yb (ib gx) (ib gy) xk.toArray xf xt gn ga xa gt.length xc xr, Row 61 3 u3 i (wds ((ms.take i).map (·.p.w)))] := HA; clear hwb hyb q0 q1 q2 q3 q4 q5 q6 q7 HM HA; have d0 := HA2.cell 0 0 rfl rfl; have d1 := HA2.cell 0 1 rfl rfl; have d2 := HA2.cell 0 2 rfl rfl
    go_wp2_with (at_builtin; go_must (refine St.list_app (HA2.skip _) 1 rfl rfl (.tmp 12) (.tmp 15) 145 rfl Tryz.underlying145 Tryz.info61 (by decide) rfl [.string ⟨xk.toArray⟩, .int .i64 xf, .int .i64 xt] rfl rfl (new_cells #[.string ⟨xk.toArray⟩, .int .i64 xf, .int .i64 xt] _) (by simp [Value.oneCell']) (by omega) (by omega) ?_; intro g5 cap5 w6 H6 hz6))
    go_roundw
    case rel =>
     refine ⟨i + 1, by omega, by go_num, ?_⟩
     have H7 : zS w w6 [_, _] := H6; rw [hsnh.out, wds_app, wds_one]; exact H7.pick [1]
    case measure => simp [intOf]; omega
  · obtain rfl : i = ms.length := by omega
    rw [List.take_length] at HM; go_wp2; go_ret; exact ⟨_, rfl, HM⟩
theorem ref_without {v gv : Value} {ms : List Pm} {G : List Wd} {w : World} (hv : encP.RO w v ms) (hg : WdsRO w gv G) (hl : ms.length ≤ 1073741824) (hlg : G.length ≤ 1073741824) :
    Calls Tryz.prog 190 #[v, gv] w fun e w' => ∃ v', e = .returned v' ∧ zS w w' [Row 68 8 v' (ms.filter (fun m => !G.contains m.p.w)).length (encP.all (ms.filter (fun m => !G.contains m.p.w)))] := by
 have kh := zH (fun (x : Wd) w' (hk : Kept (fun _ => False) w w') => ref_has x (hg.later hk) hlg)
 obtain ⟨ao, cap, rfl, hcap, hic⟩ := hv; obtain ⟨ga0, gc0, rfl, -, -, -⟩ := hg; have H0 : zS w w [Row 68 8 (.slice none 0 0) 0 (encP.all [])] := (St.nil _ w).row_nil 68 8; have hich := zH hic; clear hic; obtain ⟨F, hF⟩ : ∃ F : Pm → Bool, F = fun m => !G.contains m.p.w := ⟨_, rfl⟩
 rw [← hF]; have hFh := zH hF; clear hF
 go_enter Tryz.func190, Tryz.ntmps190
 go_upto_block 1 with (fail)
 go_loopw [5, 7, 10] (fun u _ j wr => ∃ (i : Nat) (L : List Pm), i ≤ ms.length ∧ L.length ≤ i ∧ j = .int .i64 i ∧ Hid ((ms.take i).filter F = L) ∧ zS w wr [zbgP (encP.all L) u L.length]) (fun _ _ j _ => ms.length - (intOf j).toNat)
 case atStart => exact ⟨0, [], by omega, by simp, rfl, zH (by simp), H0⟩
 case round =>
  clear H0; obtain ⟨i, L, hi, hLi, rfl, hfl, HM⟩ := hrel
  by_cases hlt : i < ms.length
  · obtain ⟨b, o, rfl, hb, hc⟩ := hich.out (by intro e; rw [e] at hlt; simp at hlt)
    obtain ⟨x, hx⟩ : ∃ x, ms[i]? = some x := ⟨_, List.getElem?_eq_getElem hlt⟩; have hc := hc i x hx; obtain ⟨q0, q1, q2, q3, q4, q5, q6, q7⟩ := pn_cells hc (HM.kept.block b hb id); have hsn := filtP_snoc F hx; rw [hfl.out] at hsn; obtain ⟨ct, hct⟩ := zNm (G.contains x.p.w); have hFx : F x = !ct := by rw [hFh.out, ← hct]
    rw [hFx] at hsn; have hsnh := zH hsn; have kk := fun w' hk => kh.out x.p.w w' hk
    rw [hct] at kk; obtain ⟨x0, hx0⟩ : ∃ z, z = x := ⟨_, rfl⟩; have hx0h := zH hx0; rw [← hx0] at hsnh; clear hx hc hsn hfl hct hFx hx0; obtain ⟨⟨⟨xk, xf, xt⟩, ⟨gn, ga, gt, gx, gy⟩, xr⟩, xa, xc⟩ := x; unfold wdV wdC textV at kk; unfold textV at q0; unfold Pm.hd at q5; simp only at q0 q1 q2 q3 q4 q5 q6 q7 kk; have HA : zS w _ [_, _] := HM.allocAt rfl #[.string ⟨xk.toArray⟩, .int .i64 xf, .int .i64 xt, .int .i64 gn, .int .i64 ga, .slice xa gt.length xc, .complex .f64 (ib gx) (ib gy), .int .i64 xr] 68; go_upto_region 5 with (fail)
    obtain ⟨wb, hwb⟩ := zNm (wr.alloc (.cells #[.string ⟨xk.toArray⟩, .int .i64 xf, .int .i64 xt, .int .i64 gn, .int .i64 ga, .slice xa gt.length xc, .complex .f64 (ib gx) (ib gy), .int .i64 xr] 68)); obtain ⟨yb, hyb⟩ := zNm wr.heap.size; rw [hwb, hyb] at HA; (try rw [hwb]); (try simp only [hyb]); have HA2 : zS w wb [zbfP yb (ib gx) (ib gy) xk.toArray xf xt gn ga xa gt.length xc xr, zbgP (encP.all L) u5 L.length] := HA; clear hwb hyb q0 q1 q2 q3 q4 q5 q6 q7 HM HA; have d0 := HA2.cell 0 0 rfl rfl; have d1 := HA2.cell 0 1 rfl rfl; have d2 := HA2.cell 0 2 rfl rfl
    cases ct with
    | true =>
     go_wp2_with (go_at_call 181; go_must (refine (St.callPast (kk _ HA2.kept) HA2).mono ?_; rintro e w3 ⟨rfl, H3⟩))
     go_roundw
     case rel => exact ⟨i + 1, L, by omega, by omega, by go_num, zH (by rw [hsnh.out]; rfl), H3.pick [1]⟩
     case measure => simp [intOf]; omega
    | false =>
     go_upto_region 6 with (go_at_call 181; go_must (refine (St.callPast (kk _ HA2.kept) HA2).mono ?_; rintro e w3 ⟨rfl, H3⟩))
     clear HA2 d0 d1 d2; have d0 := H3.cell 0 0 rfl rfl; have d1 := H3.cell 0 1 rfl rfl; have d2 := H3.cell 0 2 rfl rfl; have d3 := H3.cell 0 3 rfl rfl; have d4 := H3.cell 0 4 rfl rfl; have d5 := H3.cell 0 5 rfl rfl; have d6 := H3.cell 0 6 rfl rfl; have d7 := H3.cell 0 7 rfl rfl
     go_wp2_with (at_builtin; go_must (refine St.list_app (H3.skip _) 1 rfl rfl (.tmp 19) (.tmp 21) 43 rfl Tryz.underlying43 Tryz.info68 (by decide) rfl [.string ⟨xk.toArray⟩, .int .i64 xf, .int .i64 xt, .int .i64 gn, .int .i64 ga, .slice xa gt.length xc, .complex .f64 (ib gx) (ib gy), .int .i64 xr] rfl rfl (new_cells #[.string ⟨xk.toArray⟩, .int .i64 xf, .int .i64 xt, .int .i64 gn, .int .i64 ga, .slice xa gt.length xc, .complex .f64 (ib gx) (ib gy), .int .i64 xr] _) (by simp [Value.oneCell']) (by omega) (by omega) ?_; intro g5 cap5 w4 H4 hz4))
     go_roundw
     case rel =>
      refine ⟨i + 1, L ++ [x0], by omega, by rw [List.length_append, List.length_singleton]; omega, by go_num, zH (by rw [hsnh.out]; rfl), ?_⟩
      rw [List.length_append, Enc.all_app, Enc.all_one, hx0h.out]; exact St.pick (l := [_, _]) H4 [1]
     case measure => simp [intOf]; omega
  · obtain rfl : i = ms.length := by omega
    have hfin := hfl.out; rw [List.take_length] at hfin; have hfinh := zH hfin; go_wp2; go_ret; rw [hfinh.out]; exact ⟨_, rfl, HM⟩
end Go.Proofs.YtiglgfonhdfpmaaGreat
namespace Go.Proofs.YtiglgfonhdfpmaaGreat
open Go.RowKit
def insQ (p : Pm) : List Pm → List Pm
 | [] => [p]
 | x :: r => if p.p.w.place x.p.w < 0 then p :: x :: r else x :: insQ p r
theorem drop_get {α : Type} {l : List α} {i : Nat} {x : α} (h : l[i]? = some x) : l.drop i = x :: l.drop (i + 1) := by
 obtain ⟨hlt, hx⟩ := List.getElem?_eq_some_iff.1 h; rw [List.drop_eq_getElem_cons hlt, hx]
theorem ref_insert {v : Value} {ms : List Pm} (m : Pm) {w : World} (hv : encP.RO w v ms) (hl : ms.length ≤ 1073741824) :
    Calls Tryz.prog 189 #[v, pnV m] w fun e w' => ∃ v', e = .returned v' ∧ zS w w' [Row 68 8 v' (insQ m ms).length (encP.all (insQ m ms))] := by
 obtain ⟨ao, cap, rfl, hcap, hic⟩ := hv; have hich := zH hic; clear hic; have kpl := zH (fun (a : Pm) w' => ref_place m.p.w a.p.w w')
 obtain ⟨M, hM⟩ : ∃ M, M = m := ⟨_, rfl⟩; have hMh := zH hM; rw [show insQ m ms = insQ M ms by rw [hM]]
 clear hM; obtain ⟨⟨⟨yk, yf, yt⟩, ⟨hn, ha, ht, hx, hy⟩, yr⟩, ya, yc⟩ := m; have H0 : zS w _ [_] := (St.nil _ w).allocAt rfl #[.string ⟨yk.toArray⟩, .int .i64 yf, .int .i64 yt, .int .i64 hn, .int .i64 ha, .slice ya ht.length yc, .complex .f64 (ib hx) (ib hy), .int .i64 yr] 68; unfold pnV pnC textV; simp only
 go_enter Tryz.func189, Tryz.ntmps189
 go_upto_block 1 with (fail)
 obtain ⟨wb, hwb⟩ := zNm (w.alloc (.cells #[.string ⟨yk.toArray⟩, .int .i64 yf, .int .i64 yt, .int .i64 hn, .int .i64 ha, .slice ya ht.length yc, .complex .f64 (ib hx) (ib hy), .int .i64 yr] 68)); obtain ⟨yb, hyb⟩ := zNm w.heap.size; rw [hwb, hyb] at H0; (try rw [hwb]); (try simp only [hyb]); have H1 : zS w wb [Row 68 8 (.slice none 0 0) 0 (encP.all []), zbfP yb (ib hx) (ib hy) yk.toArray yf yt hn ha ya ht.length yc yr] := St.row_nil (l := [_]) H0 68 8; have hybh := zH hyb; clear hwb hyb H0
 go_loopw [5, 6, 8, 11] (fun u d _ j wr => ∃ (i : Nat) (L : List Pm) (dn : Bool), i ≤ ms.length ∧ L.length ≤ i + (if dn = true then 1 else 0) ∧ j = .int .i64 i ∧ d = .bool dn ∧ Hid (L ++ (if dn = true then ms.drop i else insQ M (ms.drop i)) = insQ M ms) ∧ zS w wr [zbgP (encP.all L) u L.length, zbfP yb (ib hx) (ib hy) yk.toArray yf yt hn ha ya ht.length yc yr]) (fun _ _ _ j _ => ms.length - (intOf j).toNat)
 case atStart => exact ⟨0, [], false, by omega, by simp, rfl, rfl, zH (by simp), H1⟩
 case round =>
  clear H1; obtain ⟨i, L, dn, hi, hLi0, rfl, rfl, hfl, HM⟩ := hrel
  have hLi : L.length ≤ i + 1 := by split at hLi0 <;> omega
  have hLf : dn = false → L.length ≤ i := fun h => by rw [if_neg (by rw [h]; decide)] at hLi0; omega
  clear hLi0
  by_cases hlt : i < ms.length
  · obtain ⟨b, o, rfl, hb, hc⟩ := hich.out (by intro e; rw [e] at hlt; simp at hlt)
    obtain ⟨x, hx2⟩ : ∃ x, ms[i]? = some x := ⟨_, List.getElem?_eq_getElem hlt⟩; have hc := hc i x hx2; obtain ⟨q0, q1, q2, q3, q4, q5, q6, q7⟩ := pn_cells hc (HM.kept.block b hb id); have hfl2 := hfl.out; rw [drop_get hx2, insQ] at hfl2; have kk := fun w' => kpl.out x w'
    obtain ⟨P, hP⟩ := zNm ((⟨yk, yf, yt⟩ : Wd).place x.p.w); have hP2 : M.p.w.place x.p.w = P := by rw [hMh.out]; exact hP
    rw [hP2] at hfl2; simp only [hP] at kk; obtain ⟨x0, hx0⟩ : ∃ z, z = x := ⟨_, rfl⟩; have hx0h := zH hx0; rw [← hx0] at hfl2; have hfl2h := zH hfl2; clear hx2 hc hfl hfl2 hP hP2 hx0; obtain ⟨⟨⟨xk, xf, xt⟩, ⟨gn, ga, gt, gx, gy⟩, xr⟩, xa, xc⟩ := x; unfold wdV wdC textV at kk; unfold textV at q0; unfold Pm.hd at q5; simp only at q0 q1 q2 q3 q4 q5 q6 q7 kk; have HA : zS w _ (_ :: _) := HM.allocAt rfl #[.string ⟨xk.toArray⟩, .int .i64 xf, .int .i64 xt, .int .i64 gn, .int .i64 ga, .slice xa gt.length xc, .complex .f64 (ib gx) (ib gy), .int .i64 xr] 68; go_upto_region 6 with (fail)
    obtain ⟨wc, hwc⟩ := zNm (wr.alloc (.cells #[.string ⟨xk.toArray⟩, .int .i64 xf, .int .i64 xt, .int .i64 gn, .int .i64 ga, .slice xa gt.length xc, .complex .f64 (ib gx) (ib gy), .int .i64 xr] 68)); obtain ⟨xb, hxb⟩ := zNm wr.heap.size; rw [hwc, hxb] at HA; (try rw [hwc]); (try simp only [hxb]); have HA2 : zS w wc [zbfP xb (ib gx) (ib gy) xk.toArray xf xt gn ga xa gt.length xc xr, zbgP (encP.all L) u5 L.length, zbfP yb (ib hx) (ib hy) yk.toArray yf yt hn ha ya ht.length yc yr] := HA; clear hwc hxb q0 q1 q2 q3 q4 q5 q6 q7 HM HA; have c0 := HA2.cell 0 0 rfl rfl; have c1 := HA2.cell 0 1 rfl rfl; have c2 := HA2.cell 0 2 rfl rfl; have d0 := HA2.cell 2 0 rfl rfl; have d1 := HA2.cell 2 1 rfl rfl; have d2 := HA2.cell 2 2 rfl rfl
    cases dn with
    | true =>
     have hf := hfl2h.out; rw [if_pos rfl] at hf; have hfh := zH hf; clear hf hfl2h; go_upto_region 9 with (fail)
     clear c0 c1 c2 d0 d1 d2; have c0 := HA2.cell 0 0 rfl rfl; have c1 := HA2.cell 0 1 rfl rfl; have c2 := HA2.cell 0 2 rfl rfl; have c3 := HA2.cell 0 3 rfl rfl; have c4 := HA2.cell 0 4 rfl rfl; have c5 := HA2.cell 0 5 rfl rfl; have c6 := HA2.cell 0 6 rfl rfl; have c7 := HA2.cell 0 7 rfl rfl
     go_wp2_with (at_builtin; go_must (refine St.list_app (HA2.skip _) 1 rfl rfl (.tmp 29) (.tmp 31) 43 rfl Tryz.underlying43 Tryz.info68 (by decide) rfl [.string ⟨xk.toArray⟩, .int .i64 xf, .int .i64 xt, .int .i64 gn, .int .i64 ga, .slice xa gt.length xc, .complex .f64 (ib gx) (ib gy), .int .i64 xr] rfl rfl (new_cells #[.string ⟨xk.toArray⟩, .int .i64 xf, .int .i64 xt, .int .i64 gn, .int .i64 ga, .slice xa gt.length xc, .complex .f64 (ib gx) (ib gy), .int .i64 xr] _) (by simp [Value.oneCell']) (by omega) (by omega) ?_; intro g31 cap31 w31 H4 hz31))
     go_roundw
     case rel =>
      refine ⟨i + 1, L ++ [x0], true, by omega, by rw [if_pos rfl, List.length_append, List.length_singleton]; omega, by go_num, rfl, zH (by rw [if_pos rfl, ← hfh.out]; simp), ?_⟩
      rw [List.length_append, Enc.all_app, Enc.all_one, hx0h.out]; exact St.pick (l := [_, _, _]) H4 [1, 2]
     case measure => simp [intOf]; omega
    | false =>
     have hLf := hLf rfl
     by_cases hp : P < 0
     · have hf := hfl2h.out; rw [if_neg (by decide), if_pos hp] at hf
       have hfh := zH hf; clear hf hfl2h; go_upto_region 7 with (go_at_call 180; go_must (refine (St.callPast (kk _) HA2).mono ?_; rintro e w3 ⟨rfl, H3⟩))
       clear c0 c1 c2 d0 d1 d2; have d0 := H3.cell 2 0 rfl rfl; have d1 := H3.cell 2 1 rfl rfl; have d2 := H3.cell 2 2 rfl rfl; have d3 := H3.cell 2 3 rfl rfl; have d4 := H3.cell 2 4 rfl rfl; have d5 := H3.cell 2 5 rfl rfl; have d6 := H3.cell 2 6 rfl rfl; have d7 := H3.cell 2 7 rfl rfl; go_upto_region 9 with (at_builtin; go_must (refine St.list_app (H3.skip _) 1 rfl rfl (.tmp 25) (.tmp 27) 43 rfl Tryz.underlying43 Tryz.info68 (by decide) rfl [.string ⟨yk.toArray⟩, .int .i64 yf, .int .i64 yt, .int .i64 hn, .int .i64 ha, .slice ya ht.length yc, .complex .f64 (ib hx) (ib hy), .int .i64 yr] rfl rfl (new_cells #[.string ⟨yk.toArray⟩, .int .i64 yf, .int .i64 yt, .int .i64 hn, .int .i64 ha, .slice ya ht.length yc, .complex .f64 (ib hx) (ib hy), .int .i64 yr] _) (by simp [Value.oneCell']) (by omega) (by omega) ?_; intro g27 cap27 w27 H5 hz27))
       have H6 := St.pick (l := [_, _, _]) H5 [0, 1, 2]; clear d0 d1 d2 d3 d4 d5 d6 d7; have c0 := H6.cell 0 0 rfl rfl; have c1 := H6.cell 0 1 rfl rfl; have c2 := H6.cell 0 2 rfl rfl; have c3 := H6.cell 0 3 rfl rfl; have c4 := H6.cell 0 4 rfl rfl; have c5 := H6.cell 0 5 rfl rfl; have c6 := H6.cell 0 6 rfl rfl; have c7 := H6.cell 0 7 rfl rfl
       go_wp2_with (at_builtin; go_must (refine St.list_app (H6.skip _) 1 rfl rfl (.tmp 29) (.tmp 31) 43 rfl Tryz.underlying43 Tryz.info68 (by decide) rfl [.string ⟨xk.toArray⟩, .int .i64 xf, .int .i64 xt, .int .i64 gn, .int .i64 ga, .slice xa gt.length xc, .complex .f64 (ib gx) (ib gy), .int .i64 xr] rfl rfl (new_cells #[.string ⟨xk.toArray⟩, .int .i64 xf, .int .i64 xt, .int .i64 gn, .int .i64 ga, .slice xa gt.length xc, .complex .f64 (ib gx) (ib gy), .int .i64 xr] _) (by simp [Value.oneCell']) (by omega) (by omega) ?_; intro g31 cap31 w31 H7 hz31))
       go_roundw
       case rel =>
        refine ⟨i + 1, L ++ [M] ++ [x0], true, by omega, by rw [if_pos rfl, List.length_append, List.length_append, List.length_singleton, List.length_singleton]; omega, by go_num, rfl, zH (by rw [if_pos rfl, ← hfh.out]; simp), ?_⟩
        rw [List.length_append, List.length_append, Enc.all_app, Enc.all_app, Enc.all_one, Enc.all_one, hx0h.out, hMh.out]; exact St.pick (l := [_, _, _]) H7 [1, 2]
       case measure => simp [intOf]; omega
     · have hf := hfl2h.out; rw [if_neg (by decide), if_neg hp] at hf
       have hfh := zH hf; clear hf hfl2h; go_upto_region 9 with (go_at_call 180; go_must (refine (St.callPast (kk _) HA2).mono ?_; rintro e w3 ⟨rfl, H3⟩))
       clear c0 c1 c2 d0 d1 d2; have c0 := H3.cell 0 0 rfl rfl; have c1 := H3.cell 0 1 rfl rfl; have c2 := H3.cell 0 2 rfl rfl; have c3 := H3.cell 0 3 rfl rfl; have c4 := H3.cell 0 4 rfl rfl; have c5 := H3.cell 0 5 rfl rfl; have c6 := H3.cell 0 6 rfl rfl; have c7 := H3.cell 0 7 rfl rfl
       go_wp2_with (at_builtin; go_must (refine St.list_app (H3.skip _) 1 rfl rfl (.tmp 29) (.tmp 31) 43 rfl Tryz.underlying43 Tryz.info68 (by decide) rfl [.string ⟨xk.toArray⟩, .int .i64 xf, .int .i64 xt, .int .i64 gn, .int .i64 ga, .slice xa gt.length xc, .complex .f64 (ib gx) (ib gy), .int .i64 xr] rfl rfl (new_cells #[.string ⟨xk.toArray⟩, .int .i64 xf, .int .i64 xt, .int .i64 gn, .int .i64 ga, .slice xa gt.length xc, .complex .f64 (ib gx) (ib gy), .int .i64 xr] _) (by simp [Value.oneCell']) (by omega) (by omega) ?_; intro g31 cap31 w31 H4 hz31))
       go_roundw
       case rel =>
        refine ⟨i + 1, L ++ [x0], false, by omega, by rw [if_neg (by decide), List.length_append, List.length_singleton]; omega, by go_num, rfl, zH (by rw [if_neg (by decide), ← hfh.out]; simp), ?_⟩
        rw [List.length_append, Enc.all_app, Enc.all_one, hx0h.out]; exact St.pick (l := [_, _, _]) H4 [1, 2]
       case measure => simp [intOf]; omega
  · obtain rfl : i = ms.length := by omega
    have hf := hfl.out; rw [List.drop_length] at hf
    cases dn with
    | true =>
     rw [if_pos rfl, List.append_nil] at hf; have hfh := zH hf; clear hf hfl; go_wp2; go_ret; rw [← hfh.out]; exact ⟨_, rfl, HM.pick [0]⟩
    | false =>
     rw [if_neg (by decide)] at hf
     have hfh := zH (show L ++ [M] = insQ M ms from hf); clear hf hfl; have d0 := HM.cell 1 0 rfl rfl; have d1 := HM.cell 1 1 rfl rfl; have d2 := HM.cell 1 2 rfl rfl; have d3 := HM.cell 1 3 rfl rfl; have d4 := HM.cell 1 4 rfl rfl; have d5 := HM.cell 1 5 rfl rfl; have d6 := HM.cell 1 6 rfl rfl; have d7 := HM.cell 1 7 rfl rfl
     go_wp2_with (at_builtin; go_must (refine St.list_app (HM.skip _) 0 rfl rfl (.tmp 36) (.tmp 38) 43 rfl Tryz.underlying43 Tryz.info68 (by decide) rfl [.string ⟨yk.toArray⟩, .int .i64 yf, .int .i64 yt, .int .i64 hn, .int .i64 ha, .slice ya ht.length yc, .complex .f64 (ib hx) (ib hy), .int .i64 yr] rfl rfl (new_cells #[.string ⟨yk.toArray⟩, .int .i64 yf, .int .i64 yt, .int .i64 hn, .int .i64 ha, .slice ya ht.length yc, .complex .f64 (ib hx) (ib hy), .int .i64 yr] _) (by simp [Value.oneCell']) (by omega) (by omega) ?_; intro g38 cap38 w38 H5 hz38))
     go_ret; rw [← hfh.out, List.length_append, Enc.all_app, Enc.all_one, hMh.out]; exact ⟨_, rfl, St.pick (l := [_, _]) H5 [0]⟩
end Go.Proofs.YtiglgfonhdfpmaaGreat
namespace Go.Proofs.YtiglgfonhdfpmaaGreat
theorem insQ_with {m : Pm} : ∀ {ms : List Pm}, (∀ y ∈ ms, y.p.w ≠ m.p.w) → (insQ m ms).map (·.p) = withP (ms.map (·.p)) m.p
 | [], _ => by simp [insQ, withP]
 | x :: r, h => by
  have ih := insQ_with (m := m) (ms := r) (fun y hy => h y (List.mem_cons_of_mem _ hy))
  have hne := h x List.mem_cons_self; have hsw := place_swap m.p.w x.p.w; have hz : m.p.w.place x.p.w ≠ 0 := fun e => hne (place_zero.1 e).symm
  unfold withP placeP posW at ih ⊢; rw [insQ]
  by_cases hp : m.p.w.place x.p.w < 0
  · rw [if_pos hp]; have hf : ¬ x.p.w.place m.p.w < 0 := by omega
    simp [hf]
  · rw [if_neg hp]; have hf : x.p.w.place m.p.w < 0 := by omega
    simp only [List.map_cons, List.takeWhile_cons, hf, decide_true, if_true, List.length_cons, List.take_succ_cons, List.drop_succ_cons, List.cons_append]; rw [ih]
end Go.Proofs.YtiglgfonhdfpmaaGreat
namespace Go.Proofs.YtiglgfonhdfpmaaGreat
open Go.RowKit
theorem doc_whole {n : Int} (hn : n.natAbs < 2 ^ 53) (w : World) : Calls Tryz.prog 231 #[.float .f64 (ib n)] w fun e w' => e = .returned (.bool (partB n)) ∧ w' = w := by
 have o1 := le_ib (a := n) (b := 1073741824) hn (by decide)
 have o2 := ge_ib (a := n) (b := -1073741824) hn (by decide)
 have o3 := (eq_ib (a := n) (b := n) hn hn).2 rfl; have o4 : (FloatKind.f64.format.order (ib n) (ib n) == some Ordering.eq) = true := by rw [o3]; rfl
 have c1 := ib_int hn; have i4 : floatOfInt .f64 n = ib n := rfl; rw [ib_most] at o1; rw [ib_least] at o2
 go_enter Tryz.func231, Tryz.ntmps231
 by_cases h1 : -1073741824 ≤ n
 · have z1 : (FloatKind.f64.format.order (ib n) 13965662444475908096 == some Ordering.gt || FloatKind.f64.format.order (ib n) 13965662444475908096 == some Ordering.eq) = true := by rw [Bool.or_eq_true, beq_iff_eq, beq_iff_eq]; exact o2.2 h1
   by_cases h2 : n ≤ 1073741824
   · have z2 : (FloatKind.f64.format.order (ib n) 4742290407621132288 == some Ordering.lt || FloatKind.f64.format.order (ib n) 4742290407621132288 == some Ordering.eq) = true := by rw [Bool.or_eq_true, beq_iff_eq, beq_iff_eq]; exact o1.2 h2
     have hf := zH (show partB n = true from partB_iff.2 ⟨h1, h2⟩); clear o1 o2 h1 h2; go_wp2; go_ret; rw [hf.out]; exact ⟨rfl, rfl⟩
   · have z2 : (FloatKind.f64.format.order (ib n) 4742290407621132288 == some Ordering.lt || FloatKind.f64.format.order (ib n) 4742290407621132288 == some Ordering.eq) = false := by rw [← Bool.not_eq_true, Bool.or_eq_true, beq_iff_eq, beq_iff_eq]; exact fun h => h2 (o1.1 h)
     have hf := zH (show partB n = false by unfold partB; simp; omega)
     clear o1 o2 h1 h2 o3 c1; go_wp2; go_ret; rw [hf.out]; exact ⟨rfl, rfl⟩
 · have z1 : (FloatKind.f64.format.order (ib n) 13965662444475908096 == some Ordering.gt || FloatKind.f64.format.order (ib n) 13965662444475908096 == some Ordering.eq) = false := by rw [← Bool.not_eq_true, Bool.or_eq_true, beq_iff_eq, beq_iff_eq]; exact fun h => h1 (o2.1 h)
   have hf := zH (show partB n = false by unfold partB; simp; omega)
   clear o1 o2 h1 o3 c1; go_wp2; go_ret; rw [hf.out]; exact ⟨rfl, rfl⟩
theorem doc_times {a b : Int} (ha : a.natAbs ≤ 1073741824) (hb : b.natAbs ≤ 1073741824) (w : World) : Calls Tryz.prog 275 #[.agg #[.int .i64 a, .int .i64 b], .agg #[.int .i64 0, .int .i64 1]] w fun e w' => e = .returned (.agg #[.int .i64 (-b), .int .i64 a]) ∧ Below w.heap.size w w' := by
 obtain ⟨p, hp⟩ := zNm w.heap.size; obtain ⟨p2, hp2⟩ := zNm (p + 1); obtain ⟨p3, hp3⟩ := zNm (p2 + 1); have sz1 : ∀ (w : World) (o : Obj), (w.alloc o).heap.size = w.heap.size + 1 := fun w o => Array.size_push _
 have H0 : zS w _ [_] := (St.nil _ w).allocAt hp #[.int .i64 a, .int .i64 b] 290; have s1 : (w.alloc (.cells #[.int .i64 a, .int .i64 b] 290)).heap.size = p2 := by rw [sz1, hp, hp2]
 have H1 := H0.allocAt (B := p2) s1 #[.int .i64 0, .int .i64 1] 290; have s2 : ((w.alloc (.cells #[.int .i64 a, .int .i64 b] 290)).alloc (.cells #[.int .i64 0, .int .i64 1] 290)).heap.size = p3 := by rw [sz1, s1, hp3]
 have H2 := H1.allocAt (B := p3) s2 #[.int .i64 0, .int .i64 0] 290; obtain ⟨w1, hw1⟩ := zNm (((w.alloc (.cells #[.int .i64 a, .int .i64 b] 290)).alloc (.cells #[.int .i64 0, .int .i64 1] 290)).alloc (.cells #[.int .i64 0, .int .i64 0] 290)); rw [hw1] at H2
 go_enter Tryz.func275, Tryz.ntmps275
 go_upto_region 1 with (fail)
 (try simp only [hp, hp2, hp3]); (try rw [hw1]); clear hw1 hp hp2 hp3 H0 H1 s1 s2 sz1; have c0 := H2.cell 2 0 rfl rfl; have c1 := H2.cell 2 1 rfl rfl; have d0 := H2.cell 1 0 rfl rfl; have d1 := H2.cell 1 1 rfl rfl; have x0 := H2.cell 0 0 rfl rfl; have x1 := H2.cell 0 1 rfl rfl; have r0 := H2.free 0 0 rfl; have r1 := H2.free 0 1 rfl; have n1 : IntKind.i64.wrap a = a := by rw [IntKind.wrap_i64]; omega
 have n2 : IntKind.i64.wrap b = b := by rw [IntKind.wrap_i64]; omega
 have n3 : IntKind.i64.wrap (-b) = -b := by rw [IntKind.wrap_i64]; omega
 have n4 : IntKind.i64.wrap (0 - b) = -b := by rw [IntKind.wrap_i64]; omega
 have HR := (H2.set 0 rfl 0 (.int .i64 (-b))).set 0 rfl 1 (.int .i64 a); go_wp2
 try simp only [Exit.inBlock, Exit.then]
 refine bodyPost_ret (results_ag rfl rfl (blk_ag (cs := [.int .i64 (-b), .int .i64 a]) (HR.blk 0 rfl)) Tryz.underlying290 rfl (by kernel_rfl)) rfl ?_
 exact ⟨rfl, HR.below (Nat.le_refl _) (fun _ h => h.elim)⟩
end Go.Proofs.YtiglgfonhdfpmaaGreat
namespace Go.Proofs.YtiglgfonhdfpmaaGreat
open Go.RowKit
theorem turn_next {i : Nat} (hi : i < 3) : turnX ((i : Int) + 1) = -turnY i ∧ turnY ((i : Int) + 1) = turnX i := by
 have h : i = 0 ∨ i = 1 ∨ i = 2 := by omega
 rcases h with rfl | rfl | rfl <;> decide
theorem turn_small (i : Nat) : (turnX i).natAbs ≤ 1 ∧ (turnY i).natAbs ≤ 1 := by
 unfold turnX turnY
 constructor <;> split <;> (try split) <;> decide
theorem turn_mod (v : Int) : turnX (v % 4) = turnX v ∧ turnY (v % 4) = turnY v := by
 unfold turnX turnY
 simp
theorem doc_turn {v : Int} (hv : -9223372036854775808 ≤ v ∧ v ≤ 9223372036854775807) (w : World) : Calls Tryz.prog 234 #[.int .i64 v] w fun e w' => e = .returned (.agg #[.int .i64 (turnX v), .int .i64 (turnY v)]) ∧ Below w.heap.size w w' := by
 have hb : -4 < v.tmod 4 ∧ v.tmod 4 < 4 ∧ (v.tmod 4) % 4 = v % 4 := by
  refine ⟨by have := Int.lt_tmod_of_pos v (show (0:Int) < 4 by omega); omega, Int.tmod_lt_of_pos v (by omega), ?_⟩
  have := Int.mul_tdiv_add_tmod v 4
  omega
 obtain ⟨k, hk⟩ : ∃ k : Nat, v % 4 = k := ⟨(v % 4).toNat, by omega⟩
 have hk3 : k ≤ 3 := by omega
 have hfx := turn_mod v; rw [hk] at hfx; have hfx := zH hfx; obtain ⟨r, hr⟩ := zNm (v.tmod 4); rw [hr] at hb; have n1 : IntKind.i64.wrap r = r := by rw [IntKind.wrap_i64]; omega
 have n0 : IntKind.i64.wrap v = v := by rw [IntKind.wrap_i64]; omega
 obtain ⟨p, hp⟩ := zNm w.heap.size; have H0 : zS w (w.alloc (.cells #[.int .i64 0, .int .i64 0] 290)) [Blk p #[.int .i64 0, .int .i64 0] 290] := (St.nil _ w).allocAt hp #[.int .i64 0, .int .i64 0] 290; obtain ⟨w1, hw1⟩ := zNm (w.alloc (.cells #[.int .i64 0, .int .i64 0] 290)); rw [hw1] at H0; obtain ⟨p2, hp2⟩ := zNm w1.heap.size
 have hx : (r < 0 ∧ IntKind.i64.wrap (r + 4) = k) ∨ (¬ r < 0 ∧ r = k) := by
  by_cases h : r < 0
  · exact .inl ⟨h, by rw [IntKind.wrap_i64]; omega⟩
  · exact .inr ⟨h, by omega⟩
 clear hb hk
 go_enter Tryz.func234, Tryz.ntmps234
 go_upto_region 1 with (fail)
 (try simp only [hp]); (try rw [hw1]); clear hw1 hp; rcases hx with ⟨hx, n2⟩ | ⟨hx, rfl⟩
 case' inl =>
  have z1 : decide (r < 0) = true := by simpa using hx
  clear hx; go_upto_region 4 with (fail)
 case' inr =>
  have z1 : decide ((k : Int) < 0) = false := by simp
  clear hx; go_upto_region 4 with (fail)
 all_goals
  have H1 := H0.allocAt hp2 #[.int .i64 0, .int .i64 0] 290; have r0 := H1.free 0 0 rfl; have r1 := H1.free 0 1 rfl; have x0 := H1.cell 0 0 rfl rfl; have x1 := H1.cell 0 1 rfl rfl; have H2 := H0.allocAt hp2 #[.int .i64 1, .int .i64 0] 290
  go_upto_block 1 with (fail)
  have ht0 : turnX 0 = 1 ∧ turnY 0 = 0 := by decide
  obtain ⟨w2, hw2⟩ := zNm (w1.alloc (.cells #[.int .i64 1, .int .i64 0] 290)); rw [hw2] at H2 ⊢; clear hw2 hp2 H1 r0 r1 x0 x1
  go_loopw [4] (fun j wr => ∃ (i : Nat), i ≤ k ∧ j = .int .i64 i ∧ zS w wr [Blk p2 #[.int .i64 (turnX i), .int .i64 (turnY i)] 290, Blk p #[.int .i64 0, .int .i64 0] 290]) (fun j _ => k - (intOf j).toNat)
  case atStart => exact ⟨0, by omega, rfl, by simpa [ht0] using H2⟩
  case round =>
   clear H2 ht0; obtain ⟨i, hi, rfl, HL⟩ := hrel
   by_cases hlt : i < k
   · obtain ⟨e1, e2⟩ := turn_next (i := i) (by omega)
     obtain ⟨m1, m2⟩ := turn_small i; obtain ⟨A, hA⟩ := zNm (turnX (i : Int)); obtain ⟨B, hB⟩ := zNm (turnY (i : Int)); rw [hA, hB] at HL; rw [hB] at e1; rw [hA] at e2; rw [hA] at m1; rw [hB] at m2; have kt := fun w' => doc_times (a := A) (b := B) (by omega) (by omega) w'
     have e1 := zH e1; have e2 := zH e2; clear hA hB; have o0 := HL.cell 0 0 rfl rfl; have o1 := HL.cell 0 1 rfl rfl; have hli : (i : Int) < (k : Int) := by omega
     go_wp2_with (go_at_call 275; go_must (refine (St.callPast (kt _) HL).mono ?_; rintro e w3 ⟨rfl, H3⟩; clear o0 o1; have q0 := H3.free 0 0 rfl; have q1 := H3.free 0 1 rfl; have y0 := H3.cell 0 0 rfl rfl; have y1 := H3.cell 0 1 rfl rfl; have H4 := (H3.set 0 rfl 0 (.int .i64 (-B))).set 0 rfl 1 (.int .i64 A)))
     go_roundw
     case rel =>
      refine ⟨i + 1, by omega, by go_num, ?_⟩
      rw [Int.natCast_add, Int.natCast_one, e1.out, e2.out]; exact H4
     case measure => simp [intOf]; omega
   · obtain rfl : i = k := by omega
     rw [hfx.out.1, hfx.out.2] at HL; have o0 := HL.cell 0 0 rfl rfl; have o1 := HL.cell 0 1 rfl rfl; have q0 := HL.free 1 0 rfl; have q1 := HL.free 1 1 rfl; have y0 := HL.cell 1 0 rfl rfl; have y1 := HL.cell 1 1 rfl rfl; have HR := (HL.set 1 rfl 0 (.int .i64 (turnX v))).set 1 rfl 1 (.int .i64 (turnY v)); go_wp2
     try simp only [Exit.inBlock, Exit.then]
     refine bodyPost_ret (results_ag rfl rfl (blk_ag (cs := [.int .i64 (turnX v), .int .i64 (turnY v)]) (HR.blk 1 rfl)) Tryz.underlying290 rfl (by kernel_rfl)) rfl ?_
     exact ⟨rfl, HR.below (Nat.le_refl _) (fun _ h => h.elim)⟩
end Go.Proofs.YtiglgfonhdfpmaaGreat
namespace Go.Proofs.YtiglgfonhdfpmaaGreat
open Go.RowKit
theorem insD_drop {l : List Int} {i : Nat} {x : Int} (h : l[i]? = some x) : l.drop i = x :: l.drop (i + 1) := by
 obtain ⟨hi, rfl⟩ := List.getElem?_eq_some_iff.1 h; exact List.drop_eq_getElem_cons hi
theorem cells_snoc (xs : List Int) (z : Int) : intCells (xs ++ [z]) = intCells xs ++ [.int .i64 z] := by simp [intCells]
theorem doc_insert {h : Value} {l : List Int} (v : Int) {k : Nat} (w : World) (hl : l.length ≤ 1073741824) (hk : k ≤ 1073741824) (hr : IntsRO w h l) :
    Calls Tryz.prog 233 #[h, .int .i64 v, .int .i64 k] w fun e w' => ∃ h', e = .returned h' ∧ zS w w' [Row 3 1 h' ((insD v l).take k).length (intCells ((insD v l).take k))] := by
 obtain ⟨ao, cap, rfl, hcap, hint, hcell⟩ := hr; have H0 : zS w w [zceP (intCells [])] := (St.nil (fun _ => False) w).row_nil 3 1
 have hIl := insD_len v l; obtain ⟨I, hI⟩ := zNm (insD v l); rw [hI] at hIl ⊢
 go_enter Tryz.func233, Tryz.ntmps233
 go_upto_block 1 with (fail)
 go_loopw [7, 8, 13] (fun u dn j wr => ∃ (i : Nat) (d : Bool) (xs : List Int), i ≤ l.length ∧ j = .int .i64 i ∧ dn = .bool d ∧ Hid (I = xs ++ (if d = true then l.drop i else insD v (l.drop i))) ∧ xs.length = i + d.toNat ∧ zS w wr [Row 3 1 u xs.length (intCells xs)]) (fun _ _ j _ => l.length - (intOf j).toNat)
 case atStart => exact ⟨0, false, [], by omega, rfl, rfl, zH (by simpa using hI.symm), rfl, H0⟩
 case round =>
  clear H0; obtain ⟨i, d, xs, hi, rfl, rfl, hx, hxl, HM⟩ := hrel
  have hdn : d.toNat ≤ 1 := by cases d <;> simp
  by_cases hlt : i < l.length
  · obtain ⟨b, o, rfl, hb, hcl⟩ := hcell (by rintro rfl; simp at hlt)
    obtain ⟨t, ht⟩ : ∃ t, l[i]? = some t := ⟨_, List.getElem?_eq_getElem hlt⟩; have c0 := (World.cell?_of_block (w := w) (a := ⟨b, o + i, none⟩) (HM.kept.block b hb id)).trans (hcl i t ht); have hdr := zH (insD_drop ht); obtain ⟨n, hn⟩ := zNm xs.length; rw [hn] at HM; have hnb : n ≤ 1073741824 + 1 := by omega
    have hnh := zH hn; have hxl := zH hxl; clear ht hI hn hcell hcl
    cases d with
    | true =>
     go_wp2_with (at_builtin; go_must (refine St.list_app (HM.skip _) 0 rfl rfl (.tmp 28) (.tmp 30) 33 rfl Tryz.underlying33 Tryz.info3 (by decide) rfl [.int .i64 t] rfl rfl (new_cells #[.int .i64 t] _) (by simp [Value.oneCell']) (by omega) (by omega) ?_; intro g5 cap5 w5 H5 hz5))
     go_roundw
     case rel =>
      refine ⟨i + 1, true, xs ++ [t], by omega, by go_num, rfl, zH ?_, ?_, ?_⟩
      · rw [hx.out, hdr.out]; simp
      · rw [List.length_append, hxl.out]; simp <;> omega
      · rw [cells_snoc, List.length_append, hnh.out]; exact H5
     case measure => simp [intOf]; omega
    | false =>
     by_cases hv : t < v
     · have z1 : decide (t < v) = true := by simpa using hv
       have hv := zH hv
       go_wp2_with (at_builtin; go_must (first
        | (refine St.list_app (HM.skip _) 0 rfl rfl (.tmp 24) (.tmp 26) 33 rfl Tryz.underlying33 Tryz.info3 (by decide) rfl [.int .i64 v] rfl rfl (new_cells #[.int .i64 v] _) (by simp [Value.oneCell']) (by omega) (by omega) ?_; intro g5 cap5 w5 H5 hz5)
        | (refine St.list_app (H5.skip _) 0 rfl rfl (.tmp 28) (.tmp 30) 33 rfl Tryz.underlying33 Tryz.info3 (by decide) rfl [.int .i64 t] rfl rfl (new_cells #[.int .i64 t] _) (by simp [Value.oneCell']) (by omega) (by omega) ?_; intro g6 cap6 w6 H6 hz6)))
       go_roundw
       case rel =>
        refine ⟨i + 1, true, xs ++ [v] ++ [t], by omega, by go_num, rfl, zH ?_, ?_, ?_⟩
        · rw [hx.out, hdr.out]; unfold insD; rw [if_pos hv.out]; simp
        · rw [List.length_append, List.length_append, hxl.out]; simp
        · rw [cells_snoc, cells_snoc, List.length_append, List.length_append, hnh.out]; exact H6
       case measure => simp [intOf]; omega
     · have z1 : decide (t < v) = false := by simpa using hv
       have hv := zH hv
       go_wp2_with (at_builtin; go_must (refine St.list_app (HM.skip _) 0 rfl rfl (.tmp 28) (.tmp 30) 33 rfl Tryz.underlying33 Tryz.info3 (by decide) rfl [.int .i64 t] rfl rfl (new_cells #[.int .i64 t] _) (by simp [Value.oneCell']) (by omega) (by omega) ?_; intro g5 cap5 w5 H5 hz5))
       go_roundw
       case rel =>
        refine ⟨i + 1, false, xs ++ [t], by omega, by go_num, rfl, zH ?_, ?_, ?_⟩
        · rw [hx.out, hdr.out]; simp only [Bool.false_eq_true, if_false]; rw [show insD v (t :: l.drop (i + 1)) = t :: insD v (l.drop (i + 1)) by rw [insD, if_neg hv.out]]
          simp
        · rw [List.length_append, hxl.out]; simp
        · rw [cells_snoc, List.length_append, hnh.out]; exact H5
       case measure => simp [intOf]; omega
  · obtain rfl : i = l.length := by omega
    obtain ⟨N, hN⟩ := zNm (l.length + 1); rw [hN] at hIl; obtain ⟨t, ht⟩ := zNm (min N k); have hmin : min (N : Int) (k : Int) = (t : Int) := by omega
    have hmin2 : (if (N : Int) < (k : Int) then (N : Int) else (k : Int)) = (t : Int) := by split <;> omega
    have f1 : (I.take k).length = t := by rw [List.length_take, hIl]; omega
    have f2 : (intCells I).take (t * 1) = intCells (I.take k) := by
     rw [Nat.mul_one]; unfold intCells; rw [← List.map_take, ← ht, ← hIl, List.take_eq_take_min (i := k), Nat.min_comm]
    have f1 := zH f1; have f2 := zH f2; have hx2 := hx.out; rw [List.drop_length] at hx2; have hxl2 := hxl; clear hI hcell hint hx
    cases d with
    | true =>
     simp only [if_true, List.append_nil] at hx2; subst hx2; rw [hIl] at HM; obtain ⟨g, cp, R, rfl, hc, -⟩ := HM.row_blk 0 rfl (by omega)
     have tc : (t : Int) ≤ (cp : Int) := by omega
     have tn : t ≤ cp := by omega
     have H14 := HM.row_cut 0 (k := t) rfl (by omega) (by omega)
     rw [f2.out] at H14; clear hIl hxl hxl2 f2 ht hN; go_wp2; go_ret; rw [f1.out]; exact ⟨_, rfl, H14⟩
    | false =>
     have hx3 : I = xs ++ [v] := by simpa [insD] using hx2
     have hxn : xs.length = l.length := by simpa using hxl2
     have hcN := zH (show intCells I = intCells xs ++ [.int .i64 v] by rw [hx3, cells_snoc])
     have hnb : l.length ≤ 1073741824 := hl; rw [hxn] at HM; have hNh := zH hN; have tN : t ≤ N ∧ N ≠ 0 := by omega
     have tN := zH tN
     have ks : ∀ (w5 : World) (g cp : Nat), zS w w5 [Row 3 1 (.slice (some ⟨g, 0, none⟩) (l.length + 1) cp) (l.length + 1) (intCells xs ++ [.int .i64 v])] → zS w w5 [zbjP (intCells (I.take k)) g t cp] ∧ t ≤ cp := fun w5 g cp H => by
      rw [← hcN.out, hNh.out] at H; have h := H.row_cut 0 (k := t) rfl tN.out.2 tN.out.1; rw [f2.out] at h; obtain ⟨_, _, _, e, h5, _⟩ := H.row_blk 0 rfl tN.out.2; simp only [Value.slice.injEq] at e; exact ⟨h, by have := tN.out.1; omega⟩
     have ks := zH ks; clear hIl hxl hxl2 ht hx2 hx3 hxn f2 hcN
     go_wp2_with (at_builtin; go_must (refine St.list_app (HM.skip _) 0 rfl rfl (.tmp 35) (.tmp 37) 33 rfl Tryz.underlying33 Tryz.info3 (by decide) rfl [.int .i64 v] rfl rfl (new_cells #[.int .i64 v] _) (by simp [Value.oneCell']) (by omega) (by omega) ?_; intro g5 cap5 w5 H5 hz5; obtain ⟨H6, tc⟩ := ks.out _ _ _ H5; have tc2 : (t : Int) ≤ (cap5 : Int) := by omega))
     go_ret; (try rw [f1.out]); exact ⟨_, rfl, H6⟩
end Go.Proofs.YtiglgfonhdfpmaaGreat
