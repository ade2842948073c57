import Derived.Test.YtiglgfonhdfpmaaGreatOr22
/- law10's first. (Printed by a program of mine.) -/
set_option linter.unusedVariables false
set_option linter.unusedSimpArgs false
set_option maxHeartbeats 16000000
set_option maxRecDepth 100000
namespace Go.Proofs.YtiglgfonhdfpmaaGreat
open Go.RowKit
def q10 : Qry := ⟨1, 10, 0, 0, 2, 0⟩
def e10 : Itm := ⟨1, [97], 3, 5⟩
def m10 : Itm := ⟨2, [], 10, 0⟩
def l10 : List Itm := [e10, e10, m10, e10]
def o10 : Ot := ⟨false, itm00, ⟨[97], 0, 10⟩, 1, [10]⟩
def p10 : Ot := ⟨true, e10, wd000, 0, []⟩
theorem l10_fit : ∀ x ∈ l10, x.fits := by
 intro x hx; simp only [l10, List.mem_cons, List.not_mem_nil, or_false] at hx
 rcases hx with rfl | rfl | rfl | rfl <;> simp [Itm.fits, e10, m10]
theorem runs10 : runsM q10 l10 ⟨stt0, [], 0, 0⟩ = ⟨⟨10, []⟩, [o10, p10], 4, 0⟩ := by kernel_rfl
theorem step10 : stepM q10 ⟨10, []⟩ itm00 = ⟨⟨10, []⟩, [], 2⟩ := by kernel_rfl
theorem right10 : Stt.right q10 ⟨10, []⟩ = true := by kernel_rfl
theorem two_outs {os : List Om} {a b : Ot} (h : os.map (·.o) = [a, b]) : ∃ y0 y1, os = [y0, y1] ∧ y0.o = a ∧ y1.o = b := by
 match os, h with
 | [y0, y1], h =>
  simp only [List.map_cons, List.map_nil, List.cons.injEq, and_true] at h; exact ⟨y0, y1, rfl, h.1, h.2⟩
theorem new_below (w : World) : Calls Tryz.prog 22 #[] w fun e w' => e = .returned (.agg #[.int .i64 (-1), .slice none 0 0]) ∧ Below w.heap.size w w' := by
 refine (oper_new w).mono ?_; rintro e w' ⟨rfl, H⟩; exact ⟨rfl, H.below (Nat.le_refl _) (fun _ h => h.elim)⟩
abbrev zmP (a0) := (Blk a0 #[.int .i64 1, .string ⟨#[97]⟩, .int .i64 3, .int .i64 5, .int .i64 1, .string ⟨#[97]⟩, .int .i64 3, .int .i64 5, .int .i64 2, .string ⟨#[]⟩, .int .i64 10, .int .i64 0, .int .i64 1, .string ⟨#[97]⟩, .int .i64 3, .int .i64 5] 56 : SP)
abbrev zwP (a0) := (Blk a0 #[.int .i64 1, .int .i64 10, .int .i64 0, .int .i64 0, .int .i64 2, .int .i64 0] 23 : SP)
abbrev zbdP (a0) := (Blk a0 #[.int .i64 1, .string ⟨#[97]⟩, .int .i64 3, .int .i64 5] 56 : SP)
abbrev zbeP (a0) := (Blk a0 #[.int .i64 2, .string ⟨#[]⟩, .int .i64 10, .int .i64 0] 56 : SP)
abbrev zbvP (a0) (a1) (a2) := (Row 63 10 (.slice a1 2 a2) 2 a0 : SP)
abbrev zbxP (a0) (a1) (a2) := (Blk a0 #[.int .i64 10, .slice a1 0 a2] 45 : SP)
theorem first10 (w : World) : Calls Tryz.prog 19 #[] w fun e w' => e = .returned (.bool true) ∧ Below w.heap.size w w' := by
 have kr := fun w' (iv : Value) (h : ItmsRO w' iv l10) => oper_run q10 stt0 l10 w' (PnsRO.nil w') (by simp [stt0]) (fun p hp => by simp [stt0] at hp) h (by decide)
 rw [runs10] at kr; unfold RunOk at kr; simp only [stt0] at kr; unfold qyV qyC at kr; simp only [q10] at kr; have e4 : (((4 : Nat)) : Int) = 4 := rfl; simp only [e4] at kr; have ks := fun w' (v : Value) (hv : PnsRO w' v []) => oper_step q10 ⟨10, []⟩ itm00 w' hv (by simp) (fun p hp => by simp at hp) (by simp [Itm.fits, itm00])
 rw [step10] at ks; unfold StepOk at ks; unfold qyV qyC itmV textV at ks; simp only [q10, itm00] at ks; have kt := fun w' (v v' : Value) (hv : PnsRO w' v []) (hv' : PnsRO w' v' []) => oper_same ⟨10, []⟩ w' hv hv' (by simp) (fun p hp => by simp at hp)
 simp only at kt; have kg := fun w' (v : Value) (hv : PnsRO w' v []) => oper_right q10 ⟨10, []⟩ w' hv (by simp) (fun p hp => by simp at hp)
 rw [right10] at kg; unfold qyV qyC at kg; simp only [q10] at kg
 have ko := fun w' (v : Value) (hv : OtsRO w' v [o10, p10]) => oper_outs w' hv hv (by simp) (fun p hp => by
  simp only [List.mem_cons, List.not_mem_nil, or_false] at hp
  rcases hp with rfl | rfl <;> simp [o10, p10])
 have kn := fun w' => new_below w'
 have H1 : zS w _ [Blk w.heap.size #[.int .i64 0, .int .i64 0, .int .i64 0, .int .i64 0, .int .i64 0, .int .i64 0] 23] := (St.nil _ w).allocAt rfl #[.int .i64 0, .int .i64 0, .int .i64 0, .int .i64 0, .int .i64 0, .int .i64 0] 23
 go_enter Tryz.func19, Tryz.ntmps19
 go_upto_region 2 with ((with_reducible show Go.wpList _ _ _ (Oper.mk none (Op.store 23 (Operand.tmp 1) _) _ _ _ _ :: _) _ _); go_must (refine St.list_store H1 0 rfl rfl 23 (.tmp 1) (.tmp 11) rfl #[.int .i64 1, .int .i64 10, .int .i64 0, .int .i64 0, .int .i64 2, .int .i64 0] rfl rfl (by kernel_rfl) rfl (by simp [Value.oneCell']) ?_; intro wq H2 hzwq; clear hzwq))
 obtain ⟨qb, hqb⟩ := zNm w.heap.size; rw [hqb] at H2; (try simp only [hqb]); have H3 : zS w _ [_, _, _] := (H2.allocAt rfl #[.int .i64 0, .string ⟨#[]⟩, .int .i64 0, .int .i64 0] 56).allocAt (B := wq.heap.size + 1) (by simp [Array.size_push]) #[.int .i64 0, .string ⟨#[]⟩, .int .i64 0, .int .i64 0] 56
 go_upto_region 3 with (first | ((with_reducible show Go.wpList _ _ _ (Oper.mk none (Op.store 56 (Operand.tmp 2) _) _ _ _ _ :: _) _ _); go_must (refine St.list_store H3 1 rfl rfl 56 (.tmp 2) (.tmp 12) rfl #[.int .i64 1, .string ⟨#[97]⟩, .int .i64 3, .int .i64 5] rfl rfl (by kernel_rfl) rfl (by simp [Value.oneCell']) ?_; intro we H4 hzwe; clear hzwe)) | ((with_reducible show Go.wpList _ _ _ (Oper.mk none (Op.store 56 (Operand.tmp 3) _) _ _ _ _ :: _) _ _); go_must (refine St.list_store H4 0 rfl rfl 56 (.tmp 3) (.tmp 13) rfl #[.int .i64 2, .string ⟨#[]⟩, .int .i64 10, .int .i64 0] rfl rfl (by kernel_rfl) rfl (by simp [Value.oneCell']) ?_; intro wm H5 hzwm; clear hzwm)))
 obtain ⟨eb, heb⟩ := zNm wq.heap.size; rw [heb] at H5; (try simp only [heb]); obtain ⟨mb, hmb⟩ := zNm (eb + 1); rw [hmb] at H5; (try simp only [hmb]); have H6 : zS w wm [zwP qb, zbdP eb, zbeP mb] := H5.pick [2, 1, 0]; have hqbh := zH hqb; clear hqb heb hmb H1 H2 H3 H4 H5
 go_simp
 go_cut [4, 5, 6, 7, 14] from 15 to 26 (fun p4 p5 p6 p7 _ wx => ∃ (sb : Nat) (pa : Option Addr) (pc : Nat) (oa : Option Addr) (oc : Nat) (y0 y1 : Om) (H : List (Value × List Int)), p4 = .pointer (some ⟨sb, 0, none⟩) ∧ p5 = .slice oa 2 oc ∧ p6 = .int .i64 4 ∧ p7 = .int .i64 0 ∧ Hid ((y0.o = o10 ∧ y1.o = p10) ∧ Om.own y0 ∈ H ∧ Om.own y1 ∈ H) ∧ zS w wx [zbxP sb pa pc, zbpP (encP.all []) pa pc, zbvP (encO.all [y0, y1]) oa oc, Pool H, zwP qb, zbdP eb, zbeP mb])
 case first =>
  refine wp_plan (.small 0 (.small 1 (.small 2 (.small 3 (.small 4 (.small 5 (.fork 6 13 (.fork 7 13 (.small 8 (.small 9 (.small 10 (.small 11 (.small 12 (.alone 13 (.alone 14 (.small 15 (.small 16 (.small 17 .nil)))))))))) (.alone 7 (.small 8 (.small 9 (.small 10 (.small 11 (.small 12 (.alone 14 (.small 15 (.small 16 (.small 17 .nil))))))))))) (.alone 6 (.alone 7 (.small 8 (.small 9 (.small 10 (.small 11 (.small 12 (.alone 14 (.small 15 (.small 16 (.small 17 .nil)))))))))))))))))) (Fam fun w' => zS w w' [zwP qb, zbdP eb, zbeP mb]) (fun w' => zS w w' [zwP qb, zbdP eb, zbeP mb]) (by kernel_rfl) (by rfl) (by kernel_rfl) (by kernel_rfl) H6.drew (Fam.st (fun _ h => h.pick [0, 1, 2])) ?_
  iterate 6 first | (apply plan_pass; rfl; rfl; intro K hK; go_simp; refine hK _ ?_; clear hK K) | (apply plan_step; rfl; rfl; (focus (intro I hI w1 h1'; have h1 := hI.2 _ h1'; have c0 := h1.cell 0 0 rfl rfl; have c1 := h1.cell 0 1 rfl rfl; have c2 := h1.cell 0 2 rfl rfl; have c3 := h1.cell 0 3 rfl rfl; have c4 := h1.cell 0 4 rfl rfl; have c5 := h1.cell 0 5 rfl rfl; have d0 := h1.cell 1 0 rfl rfl; have d1 := h1.cell 1 1 rfl rfl; have d2 := h1.cell 1 2 rfl rfl; have d3 := h1.cell 1 3 rfl rfl; have g0 := h1.cell 2 0 rfl rfl; have g1 := h1.cell 2 1 rfl rfl; have g2 := h1.cell 2 2 rfl rfl; have g3 := h1.cell 2 3 rfl rfl; first | (go_simp; first | rfl | exact ⟨rfl, h1'⟩ | (go_at_call 22; with_reducible exact Fam.call hI h1' (kn w1))))); intro K hK; go_simp; refine hK _ ?_; clear hK K)
  refine plan_two rfl rfl rfl rfl ?_ ?_
  · skip
    intro V hV w1 h1
    go_simp
    obtain ⟨xb, hxb⟩ := zNm w1.heap.size; have HX : zS w _ [zmP xb, zwP qb, zbdP eb, zbeP mb] := h1.allocAt hxb #[.int .i64 1, .string ⟨#[97]⟩, .int .i64 3, .int .i64 5, .int .i64 1, .string ⟨#[97]⟩, .int .i64 3, .int .i64 5, .int .i64 2, .string ⟨#[]⟩, .int .i64 10, .int .i64 0, .int .i64 1, .string ⟨#[97]⟩, .int .i64 3, .int .i64 5] 56; simp only [hxb]; refine ⟨fun w' => zS w w' [zmP xb, zwP qb, zbdP eb, zbeP mb], hV _ _ _ (fun _ h => h) (Fam.st (fun _ h => h.pick [1, 2, 3])) ?_, HX⟩
    intro K hK
    go_simp
    refine hK _ ?_; clear hK K hV V; clear HX h1 hxb w1; refine plan_two rfl rfl rfl rfl ?_ ?_
    · skip
      intro V hV w1 h1
      go_simp
      refine (kr w1 _ (itms_blk (l := l10) (h1.blk 0 rfl) l10_fit)).mono ?_; rintro e w2 ⟨hs, ho, ms, os, H, rfl, hm, ho2, hmo, hoo, G1⟩; obtain rfl : ms = [] := List.map_eq_nil_iff.1 hm; obtain ⟨y0, y1, rfl, hy0, hy1⟩ := two_outs ho2; have hall : Hid ((y0.o = o10 ∧ y1.o = p10) ∧ Om.own y0 ∈ H ∧ Om.own y1 ∈ H) := zH ⟨⟨hy0, hy1⟩, hoo y0 (by simp), hoo y1 (by simp)⟩
      clear hm ho2 hmo hoo hy0 hy1; obtain ⟨pa, pc, rfl, -, -⟩ := slice_form' (G1.row 0 rfl); obtain ⟨oa, oc, rfl, -, -⟩ := slice_form' (G1.row 1 rfl); have HX : zS w w2 [zbpP (encP.all []) pa pc, zbvP (encO.all [y0, y1]) oa oc, Pool H, zmP xb, zwP qb, zbdP eb, zbeP mb] := h1.call0 G1; refine ⟨_, rfl, fun w' => zS w w' [zbpP (encP.all []) pa pc, zbvP (encO.all [y0, y1]) oa oc, Pool H, zmP xb, zwP qb, zbdP eb, zbeP mb], hV _ _ _ (fun _ h => h) (Fam.st (fun _ h => h.pick [4, 5, 6])) ?_, HX⟩
      intro K hK
      go_simp
      refine hK _ ?_; clear hK K hV V; clear HX h1 G1 w1 w2
      iterate 5 first | (apply plan_pass; rfl; rfl; intro K hK; go_simp; refine hK _ ?_; clear hK K) | (apply plan_step; rfl; rfl; (focus (intro I hI w1 h1'; have h1 := hI.2 _ h1'; first | (go_simp; first | rfl | exact ⟨rfl, h1'⟩))); intro K hK; go_simp; refine hK _ ?_; clear hK K)
      refine plan_one rfl rfl ?_; intro V hV w1 h1
      go_simp
      obtain ⟨sb, hsb⟩ := zNm w1.heap.size; have HX : zS w _ [zgP sb, zbpP (encP.all []) pa pc, zbvP (encO.all [y0, y1]) oa oc, Pool H, zmP xb, zwP qb, zbdP eb, zbeP mb] := h1.allocAt hsb #[.int .i64 0, .slice none 0 0] 45; simp only [hsb]; refine ⟨fun w' => zS w w' [zgP sb, zbpP (encP.all []) pa pc, zbvP (encO.all [y0, y1]) oa oc, Pool H, zmP xb, zwP qb, zbdP eb, zbeP mb], hV _ _ _ (fun _ h => h) (Fam.st (fun _ h => h.pick [5, 6, 7])) ?_, HX⟩
      intro K hK
      go_simp
      refine hK _ ?_; clear hK K hV V; clear HX h1 hsb w1; refine plan_one rfl rfl ?_; intro V hV w1 h1; refine h1.came_store 0 rfl 45 (.tmp 4) (.tmp 23) rfl #[.int .i64 10, .slice pa 0 pc] rfl rfl (by kernel_rfl) (Nat.zero_lt_succ _) rfl (by simp [allOne, Value.oneCell']) ?_
      intro w2 HX; refine ⟨fun w' => zS w w' [zbxP sb pa pc, zbpP (encP.all []) pa pc, zbvP (encO.all [y0, y1]) oa oc, Pool H, zmP xb, zwP qb, zbdP eb, zbeP mb], hV _ _ _ (fun _ h => h) (Fam.st (fun _ h => h.pick [5, 6, 7])) ?_, HX⟩
      intro K hK
      go_simp
      refine hK _ ?_; clear hK K hV V; clear HX h1 w1 w2
      iterate 3 first | (apply plan_pass; rfl; rfl; intro K hK; go_simp; refine hK _ ?_; clear hK K) | (apply plan_step; rfl; rfl; (focus (intro I hI w1 h1'; have h1 := hI.2 _ h1'; first | (go_simp; first | rfl | exact ⟨rfl, h1'⟩))); intro K hK; go_simp; refine hK _ ?_; clear hK K)
      refine plan_nil ?_; intro w9 H9; go_wp2; go_meet; exact ⟨sb, pa, pc, oa, oc, y0, y1, H, rfl, rfl, rfl, rfl, by assumption, H9.pick [0, 1, 2, 3, 5, 6, 7]⟩
    · skip
      intro V hV w1 h1
      go_simp
      obtain ⟨sb, hsb⟩ := zNm w1.heap.size; have HX : zS w _ [zgP sb, zmP xb, zwP qb, zbdP eb, zbeP mb] := h1.allocAt hsb #[.int .i64 0, .slice none 0 0] 45; simp only [hsb]; refine ⟨fun w' => zS w w' [zgP sb, zmP xb, zwP qb, zbdP eb, zbeP mb], hV _ _ _ (fun _ h => h) (Fam.st (fun _ h => h.pick [2, 3, 4])) ?_, HX⟩
      intro K hK
      go_simp
      refine hK _ ?_; clear hK K hV V; clear HX h1 hsb w1; refine plan_one rfl rfl ?_; intro V hV w1 h1
      go_simp
      refine (kr w1 _ (itms_blk (l := l10) (h1.blk 1 rfl) l10_fit)).mono ?_; rintro e w2 ⟨hs, ho, ms, os, H, rfl, hm, ho2, hmo, hoo, G1⟩; obtain rfl : ms = [] := List.map_eq_nil_iff.1 hm; obtain ⟨y0, y1, rfl, hy0, hy1⟩ := two_outs ho2; have hall : Hid ((y0.o = o10 ∧ y1.o = p10) ∧ Om.own y0 ∈ H ∧ Om.own y1 ∈ H) := zH ⟨⟨hy0, hy1⟩, hoo y0 (by simp), hoo y1 (by simp)⟩
      clear hm ho2 hmo hoo hy0 hy1; obtain ⟨pa, pc, rfl, -, -⟩ := slice_form' (G1.row 0 rfl); obtain ⟨oa, oc, rfl, -, -⟩ := slice_form' (G1.row 1 rfl); have HX : zS w w2 [zbpP (encP.all []) pa pc, zbvP (encO.all [y0, y1]) oa oc, Pool H, zgP sb, zmP xb, zwP qb, zbdP eb, zbeP mb] := h1.call0 G1; refine ⟨_, rfl, fun w' => zS w w' [zbpP (encP.all []) pa pc, zbvP (encO.all [y0, y1]) oa oc, Pool H, zgP sb, zmP xb, zwP qb, zbdP eb, zbeP mb], hV _ _ _ (fun _ h => h) (Fam.st (fun _ h => h.pick [5, 6, 7])) ?_, HX⟩
      intro K hK
      go_simp
      refine hK _ ?_; clear hK K hV V; clear HX h1 G1 w1 w2
      iterate 5 first | (apply plan_pass; rfl; rfl; intro K hK; go_simp; refine hK _ ?_; clear hK K) | (apply plan_step; rfl; rfl; (focus (intro I hI w1 h1'; have h1 := hI.2 _ h1'; first | (go_simp; first | rfl | exact ⟨rfl, h1'⟩))); intro K hK; go_simp; refine hK _ ?_; clear hK K)
      refine plan_one rfl rfl ?_; intro V hV w1 h1; refine h1.came_store 3 rfl 45 (.tmp 4) (.tmp 23) rfl #[.int .i64 10, .slice pa 0 pc] rfl rfl (by kernel_rfl) (Nat.zero_lt_succ _) rfl (by simp [allOne, Value.oneCell']) ?_
      intro w2 HX; refine ⟨fun w' => zS w w' [zbpP (encP.all []) pa pc, zbvP (encO.all [y0, y1]) oa oc, Pool H, zbxP sb pa pc, zmP xb, zwP qb, zbdP eb, zbeP mb], hV _ _ _ (fun _ h => h) (Fam.st (fun _ h => h.pick [5, 6, 7])) ?_, HX⟩
      intro K hK
      go_simp
      refine hK _ ?_; clear hK K hV V; clear HX h1 w1 w2
      iterate 3 first | (apply plan_pass; rfl; rfl; intro K hK; go_simp; refine hK _ ?_; clear hK K) | (apply plan_step; rfl; rfl; (focus (intro I hI w1 h1'; have h1 := hI.2 _ h1'; first | (go_simp; first | rfl | exact ⟨rfl, h1'⟩))); intro K hK; go_simp; refine hK _ ?_; clear hK K)
      refine plan_nil ?_; intro w9 H9; go_wp2; go_meet; exact ⟨sb, pa, pc, oa, oc, y0, y1, H, rfl, rfl, rfl, rfl, by assumption, H9.pick [3, 0, 1, 2, 5, 6, 7]⟩
  · skip
    intro V hV w1 h1
    go_simp
    obtain ⟨sb, hsb⟩ := zNm w1.heap.size; have HX : zS w _ [zgP sb, zwP qb, zbdP eb, zbeP mb] := h1.allocAt hsb #[.int .i64 0, .slice none 0 0] 45; simp only [hsb]; refine ⟨fun w' => zS w w' [zgP sb, zwP qb, zbdP eb, zbeP mb], hV _ _ _ (fun _ h => h) (Fam.st (fun _ h => h.pick [1, 2, 3])) ?_, HX⟩
    intro K hK
    go_simp
    refine hK _ ?_; clear hK K hV V; clear HX h1 hsb w1; refine plan_one rfl rfl ?_; intro V hV w1 h1
    go_simp
    obtain ⟨xb, hxb⟩ := zNm w1.heap.size; have HX : zS w _ [zmP xb, zgP sb, zwP qb, zbdP eb, zbeP mb] := h1.allocAt hxb #[.int .i64 1, .string ⟨#[97]⟩, .int .i64 3, .int .i64 5, .int .i64 1, .string ⟨#[97]⟩, .int .i64 3, .int .i64 5, .int .i64 2, .string ⟨#[]⟩, .int .i64 10, .int .i64 0, .int .i64 1, .string ⟨#[97]⟩, .int .i64 3, .int .i64 5] 56; simp only [hxb]; refine ⟨fun w' => zS w w' [zmP xb, zgP sb, zwP qb, zbdP eb, zbeP mb], hV _ _ _ (fun _ h => h) (Fam.st (fun _ h => h.pick [2, 3, 4])) ?_, HX⟩
    intro K hK
    go_simp
    refine hK _ ?_; clear hK K hV V; clear HX h1 hxb w1; refine plan_one rfl rfl ?_; intro V hV w1 h1
    go_simp
    refine (kr w1 _ (itms_blk (l := l10) (h1.blk 0 rfl) l10_fit)).mono ?_; rintro e w2 ⟨hs, ho, ms, os, H, rfl, hm, ho2, hmo, hoo, G1⟩; obtain rfl : ms = [] := List.map_eq_nil_iff.1 hm; obtain ⟨y0, y1, rfl, hy0, hy1⟩ := two_outs ho2; have hall : Hid ((y0.o = o10 ∧ y1.o = p10) ∧ Om.own y0 ∈ H ∧ Om.own y1 ∈ H) := zH ⟨⟨hy0, hy1⟩, hoo y0 (by simp), hoo y1 (by simp)⟩
    clear hm ho2 hmo hoo hy0 hy1; obtain ⟨pa, pc, rfl, -, -⟩ := slice_form' (G1.row 0 rfl); obtain ⟨oa, oc, rfl, -, -⟩ := slice_form' (G1.row 1 rfl); have HX : zS w w2 [zbpP (encP.all []) pa pc, zbvP (encO.all [y0, y1]) oa oc, Pool H, zmP xb, zgP sb, zwP qb, zbdP eb, zbeP mb] := h1.call0 G1; refine ⟨_, rfl, fun w' => zS w w' [zbpP (encP.all []) pa pc, zbvP (encO.all [y0, y1]) oa oc, Pool H, zmP xb, zgP sb, zwP qb, zbdP eb, zbeP mb], hV _ _ _ (fun _ h => h) (Fam.st (fun _ h => h.pick [5, 6, 7])) ?_, HX⟩
    intro K hK
    go_simp
    refine hK _ ?_; clear hK K hV V; clear HX h1 G1 w1 w2
    iterate 5 first | (apply plan_pass; rfl; rfl; intro K hK; go_simp; refine hK _ ?_; clear hK K) | (apply plan_step; rfl; rfl; (focus (intro I hI w1 h1'; have h1 := hI.2 _ h1'; first | (go_simp; first | rfl | exact ⟨rfl, h1'⟩))); intro K hK; go_simp; refine hK _ ?_; clear hK K)
    refine plan_one rfl rfl ?_; intro V hV w1 h1; refine h1.came_store 4 rfl 45 (.tmp 4) (.tmp 23) rfl #[.int .i64 10, .slice pa 0 pc] rfl rfl (by kernel_rfl) (Nat.zero_lt_succ _) rfl (by simp [allOne, Value.oneCell']) ?_
    intro w2 HX; refine ⟨fun w' => zS w w' [zbpP (encP.all []) pa pc, zbvP (encO.all [y0, y1]) oa oc, Pool H, zmP xb, zbxP sb pa pc, zwP qb, zbdP eb, zbeP mb], hV _ _ _ (fun _ h => h) (Fam.st (fun _ h => h.pick [5, 6, 7])) ?_, HX⟩
    intro K hK
    go_simp
    refine hK _ ?_; clear hK K hV V; clear HX h1 w1 w2
    iterate 3 first | (apply plan_pass; rfl; rfl; intro K hK; go_simp; refine hK _ ?_; clear hK K) | (apply plan_step; rfl; rfl; (focus (intro I hI w1 h1'; have h1 := hI.2 _ h1'; first | (go_simp; first | rfl | exact ⟨rfl, h1'⟩))); intro K hK; go_simp; refine hK _ ?_; clear hK K)
    refine plan_nil ?_; intro w9 H9; go_wp2; go_meet; exact ⟨sb, pa, pc, oa, oc, y0, y1, H, rfl, rfl, rfl, rfl, by assumption, H9.pick [4, 0, 1, 2, 5, 6, 7]⟩
 case rest =>
  obtain ⟨sb, pa, pc, oa, oc, y0, y1, H, rfl, rfl, rfl, rfl, hall, HC⟩ := hcut; clear H6 kr
  obtain ⟨ob, rfl⟩ : ∃ g, oa = some ⟨g, 0, none⟩ := by
   obtain ⟨_, _, e, -, h⟩ := slice_form' (HC.row 2 rfl); obtain ⟨g, hg⟩ := h (by decide)
   injection e with e1
   exact ⟨g, e1.trans hg⟩
  have hpn : ∀ w' (L' : List SP), zS w w' L' → ∀ i j : Nat, L'[i]? = some (zbpP (encP.all []) pa pc) → L'[j]? = some (Pool H) → PnsRO w' (.slice pa 0 pc) [] := fun w' L' h i j hi hj => h.pnsRO (ms := []) i j hi hj (fun m hm => by simp at hm)
  have hot : ∀ w' (L' : List SP), zS w w' L' → ∀ i j : Nat, L'[i]? = some (Row 63 10 (.slice (some ⟨ob, 0, none⟩) 2 oc) 2 (encO.all [y0, y1])) → L'[j]? = some (Pool H) → OtsRO w' (.slice (some ⟨ob, 0, none⟩) 2 oc) [o10, p10] := fun w' L' h i j hi hj => by
   have := h.otsRO (ms := [y0, y1]) i j hi hj (fun m hm => by
    simp only [List.mem_cons, List.not_mem_nil, or_false] at hm; rcases hm with rfl | rfl
    · exact hall.out.2.1
    · exact hall.out.2.2)
   simpa [hall.out.1.1, hall.out.1.2] using this
  have hint : ∀ w' (L' : List SP), zS w w' L' → ∀ j : Nat, L'[j]? = some (Pool H) → IntsRO w' y0.hd y0.o.value := fun w' L' h j hj => h.pool_get j hj hall.out.2.1
  have hpnh := zH hpn; have hoth := zH hot; have hinth := zH hint; clear hpn hot hint; obtain ⟨oo0, ad0, cp0⟩ := y0; obtain ⟨oo1, ad1, cp1⟩ := y1; obtain ⟨⟨ee0, ee1⟩, -, -⟩ := hall.out; simp only at ee0 ee1; subst ee0 ee1
  obtain ⟨b1, v1, rfl, hval⟩ : ∃ b o, ad0 = some ⟨b, o, none⟩ ∧ ∀ w' (L' : List SP), zS w w' L' → ∀ j : Nat, L'[j]? = some (Pool H) → w'.cell? ⟨b, o, none⟩ = some (.int .i64 10) := by
   obtain ⟨_, _, e, -, -, h⟩ := hinth.out _ _ HC 3 rfl; obtain ⟨b, o, e2, -, -⟩ := h (by simp [o10])
   injection e with e1
   refine ⟨b, o, e1.trans e2, fun w' L' hh j hj => ?_⟩
   obtain ⟨_, _, e', -, -, h'⟩ := hinth.out _ _ hh j hj; obtain ⟨b', o', e2', -, h3⟩ := h' (by simp [o10])
   injection e' with e1'
   have e3 := (e1.trans e2).symm.trans (e1'.trans e2')
   injection e3 with e3
   injection e3 with e4 e5
   subst e4 e5; have := h3 0 10 rfl
   simpa using this
  have hvalh := zH hval; clear hval hall hinth; have c0 := HC.cell 4 0 rfl rfl; have c1 := HC.cell 4 1 rfl rfl; have c2 := HC.cell 4 2 rfl rfl; have c3 := HC.cell 4 3 rfl rfl; have c4 := HC.cell 4 4 rfl rfl; have c5 := HC.cell 4 5 rfl rfl; have s0 := HC.cell 0 0 rfl rfl; have s1 := HC.cell 0 1 rfl rfl
  go_upto_region 5 with (first
   | (go_at_call 27; go_must (refine (ks _ _ (hpnh.out _ _ HC 1 3 rfl rfl)).mono ?_; rintro e w3 ⟨hs, ho, ms2, os2, H2, rfl, hm2, ho2, hmo2, hoo2, G1⟩; obtain rfl : ms2 = [] := List.map_eq_nil_iff.1 hm2; obtain rfl : os2 = [] := List.map_eq_nil_iff.1 ho2; clear hm2 ho2 hmo2 hoo2; obtain ⟨p2, z2, rfl, -, -⟩ := slice_form' (G1.row 0 rfl); obtain ⟨o2, k2, rfl, -, -⟩ := slice_form' (G1.row 1 rfl); have HD := (HC.call0 G1).allocAt rfl #[.int .i64 0, .slice none 0 0] 45))
   | ((with_reducible show Go.wpList _ _ _ (Oper.mk none (Op.store 45 (Operand.tmp 8) _) _ _ _ _ :: _) _ _); go_must (refine St.list_store HD 0 rfl rfl 45 (.tmp 8) (.tmp 32) rfl #[.int .i64 10, .slice p2 0 z2] rfl rfl (by kernel_rfl) rfl (by simp [Value.oneCell']) ?_; intro w4 HE hz4; clear hz4)))
  obtain ⟨nb, hnb⟩ := zNm w3.heap.size; rw [hnb] at HE; (try simp only [hnb])
  go_simp
  have HE : zS w w4 [zbxP nb p2 z2, zbpP (encP.all []) p2 z2, Row 63 10 (.slice o2 0 k2) 0 (encO.all []), Pool H2, zbxP sb pa pc, zbpP (encP.all []) pa pc, Row 63 10 (.slice (some ⟨ob, 0, none⟩) 2 oc) 2 (encO.all [⟨o10, some ⟨b1, v1, none⟩, cp0⟩, ⟨p10, ad1, cp1⟩]), Pool H, zwP qb, zbdP eb, zbeP mb] := HE; clear c0 c1 c2 c3 c4 c5 s0 s1
  as_aux_lemma =>
   refine wp_calmF (fun w' => zS w w' [zbxP nb p2 z2, zbpP (encP.all []) p2 z2, Row 63 10 (.slice o2 0 k2) 0 (encO.all []), Pool H2, zbxP sb pa pc, zbpP (encP.all []) pa pc, Row 63 10 (.slice (some ⟨ob, 0, none⟩) 2 oc) 2 (encO.all [⟨o10, some ⟨b1, v1, none⟩, cp0⟩, ⟨p10, ad1, cp1⟩]), Pool H, zwP qb, zbdP eb, zbeP mb]) (by kernel_rfl) (by kernel_rfl) (HE.drew) ?_
   iterate 98 first | (apply calm_pass; rfl; intro K hK; go_simp; refine hK _ ?_; clear hK K) | (apply calm_step; rfl; (focus (intro w1 h1; (first | ((with_reducible show CameTo _ _ _ ((execOp _ (Oper.mk _ (Op.load _ _) _ _ _ _)).run _ _)); have x5 : w1.cell? ⟨ob, 5, none⟩ = some (.string ⟨#[97]⟩) := own_cell (h1.row 6 rfl) rfl; have x6 : w1.cell? ⟨ob, 6, none⟩ = some (.int .i64 0) := own_cell (h1.row 6 rfl) rfl; have x7 : w1.cell? ⟨ob, 7, none⟩ = some (.int .i64 10) := own_cell (h1.row 6 rfl) rfl; have x8 : w1.cell? ⟨ob, 8, none⟩ = some (.int .i64 1) := own_cell (h1.row 6 rfl) rfl; have x9 : w1.cell? ⟨ob, 9, none⟩ = some (.slice (some ⟨b1, v1, none⟩) 1 cp0) := own_cell (h1.row 6 rfl) rfl; have y0 : w1.cell? ⟨b1, v1, none⟩ = some (.int .i64 10) := hvalh.out _ _ h1 7 rfl; have x10 : w1.cell? ⟨ob, 10, none⟩ = some (.bool true) := own_cell (h1.row 6 rfl) rfl; have x11 : w1.cell? ⟨ob, 11, none⟩ = some (.int .i64 1) := own_cell (h1.row 6 rfl) rfl; have x12 : w1.cell? ⟨ob, 12, none⟩ = some (.string ⟨#[97]⟩) := own_cell (h1.row 6 rfl) rfl; have x13 : w1.cell? ⟨ob, 13, none⟩ = some (.int .i64 3) := own_cell (h1.row 6 rfl) rfl; have x14 : w1.cell? ⟨ob, 14, none⟩ = some (.int .i64 5) := own_cell (h1.row 6 rfl) rfl; have g0 : w1.cell? ⟨eb, 0, none⟩ = some (.int .i64 1) := h1.cell 9 0 rfl rfl; have g1 : w1.cell? ⟨eb, 1, none⟩ = some (.string ⟨#[97]⟩) := h1.cell 9 1 rfl rfl; have g2 : w1.cell? ⟨eb, 2, none⟩ = some (.int .i64 3) := h1.cell 9 2 rfl rfl; have g3 : w1.cell? ⟨eb, 3, none⟩ = some (.int .i64 5) := h1.cell 9 3 rfl rfl; have s0 : w1.cell? ⟨sb, 0, none⟩ = some (.int .i64 10) := h1.cell 4 0 rfl rfl; have s1 : w1.cell? ⟨sb, 1, none⟩ = some (.slice pa 0 pc) := h1.cell 4 1 rfl rfl; have n0 : w1.cell? ⟨nb, 0, none⟩ = some (.int .i64 10) := h1.cell 0 0 rfl rfl; have n1 : w1.cell? ⟨nb, 1, none⟩ = some (.slice p2 0 z2) := h1.cell 0 1 rfl rfl; have c0 : w1.cell? ⟨qb, 0, none⟩ = some (.int .i64 1) := h1.cell 8 0 rfl rfl; have c1 : w1.cell? ⟨qb, 1, none⟩ = some (.int .i64 10) := h1.cell 8 1 rfl rfl; have c2 : w1.cell? ⟨qb, 2, none⟩ = some (.int .i64 0) := h1.cell 8 2 rfl rfl; have c3 : w1.cell? ⟨qb, 3, none⟩ = some (.int .i64 0) := h1.cell 8 3 rfl rfl; have c4 : w1.cell? ⟨qb, 4, none⟩ = some (.int .i64 2) := h1.cell 8 4 rfl rfl; have c5 : w1.cell? ⟨qb, 5, none⟩ = some (.int .i64 0) := h1.cell 8 5 rfl rfl) | skip); first | (go_simp; first | rfl | exact ⟨rfl, h1⟩ | (go_at_call 28; with_reducible exact St.callPast (kt w1 _ _ (hpnh.out _ _ h1 5 7 rfl rfl) (h1.pnsRO (ms := []) 1 3 rfl rfl (fun m hm => by simp at hm))) h1) | (go_at_call 29; with_reducible exact St.callPast (kg w1 _ (hpnh.out _ _ h1 5 7 rfl rfl)) h1) | (go_at_call 26; with_reducible exact St.callPast (ko w1 _ (hoth.out _ _ h1 6 7 rfl rfl)) h1) | (go_at_call 22; with_reducible exact St.callPast (kn w1) h1)))); intro K hK; go_simp; refine hK _ ?_; clear hK K)
   refine calm_nil ?_; intro w9 H9; go_wp2; go_ret; exact ⟨rfl, H9.below (Nat.le_refl _) (fun _ h => h.elim)⟩
end Go.Proofs.YtiglgfonhdfpmaaGreat
namespace Go.Proofs.YtiglgfonhdfpmaaGreat
open Go.RowKit
theorem runs_walk (qq : Qry) (l : List Itm) {iv : Value} (w : World) (hi : ItmsRO w iv l) (hil : l.length ≤ 1048576) (hs : wt5 l ≤ 4611686018427387904) :
    Calls Tryz.prog 4 #[qyV qq, iv] w fun e w' => e = .returned (.bool true) ∧ Below w.heap.size w w' := by
 have kf := fun w' => first10 w'
 have kg := fun w' (hk : Kept (fun _ => False) w w') => great5 w' (hi.later hk) hs (by omega)
 have kr0 := fun w' (hk : Kept (fun _ => False) w w') => oper_run qq stt0 l w' (PnsRO.nil w') (by simp [stt0]) (fun p hp => by simp [stt0] at hp) (hi.later hk) hil
 have kd0 := fun w' (hk : Kept (fun _ => False) w w') => doc_run qq l w' (hi.later hk) hil
 obtain ⟨ad, cap, rfl, hcap, -, -⟩ := id hi; have hg0 := runs_new qq l; obtain ⟨r0, hr0⟩ := zNm (runsM qq l ⟨stt0, [], 0, 0⟩); rw [hr0] at kr0 hg0 kd0; clear hr0; obtain ⟨⟨mk0, ps0⟩, O0, n0, e0⟩ := r0; have hpl : ps0.length ≤ 1073741824 := by have := hg0.few; simp only at this; omega
 have hol : O0.length ≤ 1073741824 := by have := hg0.outs; simp only at this; omega
 have hov : ∀ p ∈ O0, p.value.length ≤ 1073741824 := fun p hp => by have := hg0.vals p hp; omega
 have hpf : ∀ p ∈ ps0, p.fits := good_fits hg0.panes; have ksm := zH (fun w' v v' (h1 : PnsRO w' v ps0) (h2 : PnsRO w' v' ps0) => ref_same ⟨mk0, ps0⟩ w' h1 h2 hpl hpf)
 have kso := zH (fun w' v v' (h1 : OtsRO w' v O0) (h2 : OtsRO w' v' O0) => ref_outs w' h1 h2 hol hov)
 have kpo := zH (fun w' v v' (h1 : OtsRO w' v O0) (h2 : OtsRO w' v' O0) => oper_outs w' h1 h2 hol hov)
 obtain ⟨kd, sz, sl, lt, ag, kk⟩ := qq; unfold RunOk at kr0 kd0; simp only [stt0] at kr0 kd0; unfold qyV qyC at kr0 kd0; unfold qyV qyC; simp only at kr0 kd0 ⊢; have knew := fun w' => new_below w'
 have hih := zH hi; clear hg0 hpl hol hov hpf; have H0 : zS w _ [_] := (St.nil _ w).allocAt rfl #[.int .i64 kd, .int .i64 sz, .int .i64 sl, .int .i64 lt, .int .i64 ag, .int .i64 kk] 23
 go_enter Tryz.func4, Tryz.ntmps4
 go_upto_region 1 with (fail)
 obtain ⟨qb, hqb⟩ := zNm w.heap.size; obtain ⟨wa, hwa⟩ := zNm (w.alloc (.cells #[.int .i64 kd, .int .i64 sz, .int .i64 sl, .int .i64 lt, .int .i64 ag, .int .i64 kk] 23)); rw [hwa, hqb] at H0; (try rw [hwa]); (try simp only [hqb]); have H0b : zS w wa [zaP qb kd sz sl lt ag kk] := H0; have hqbh := zH hqb; clear hwa hqb H0; go_upto_region 2 with (go_at_call 19; go_must (refine (St.callPast (kf _) H0b).mono ?_; rintro e wb ⟨rfl, H1⟩))
 by_cases hgt : 1500 < wt5 l
 · have z : decide ((1500 : Int) < (wt5 l : Int)) = true := by simpa using (by omega : (1500 : Int) < (wt5 l : Int))
   go_wp2_with (go_at_call 20; go_must (refine (St.callPast (kg _ H1.kept) H1).mono ?_; rintro e wc ⟨rfl, H2⟩))
   go_ret; exact ⟨rfl, H2.below (Nat.le_refl _) (fun _ h => h.elim)⟩
 have z : decide ((1500 : Int) < (wt5 l : Int)) = false := by simpa using (by omega : ¬ (1500 : Int) < (wt5 l : Int))
 go_upto_region 5 with (go_at_call 20; go_must (refine (St.callPast (kg _ H1.kept) H1).mono ?_; rintro e wc ⟨rfl, H2⟩))
 clear H0b H1 kf kg
 go_cut [5, 6, 7, 8, 18] from 19 to 26 (fun p8 p9 p10 p11 _ wx => ∃ (sb0 : Nat) (pa0 : Option Addr) (pc0 : Nat) (oa0 : Option Addr) (oc0 : Nat) (ms0 : List Pm) (os0 : List Om) (H0 : List (Value × List Int)), p8 = .pointer (some ⟨sb0, 0, none⟩) ∧ p9 = .slice oa0 os0.length oc0 ∧ p10 = .int .i64 n0 ∧ p11 = .int .i64 e0 ∧ Hid (ms0.map (·.p) = ps0 ∧ os0.map (·.o) = O0 ∧ (∀ m ∈ ms0, Pm.own m ∈ H0) ∧ ∀ y ∈ os0, Om.own y ∈ H0) ∧ zS w wx [zfP sb0 mk0 pa0 ms0.length pc0, znP (encP.all ms0) pa0 ms0.length pc0, zlP (encO.all os0) oa0 os0.length oc0, Pool H0, zaP qb kd sz sl lt ag kk])
 case first =>
  refine wp_plan (.small 0 (.small 1 (.small 2 (.fork 3 9 (.small 4 (.small 5 (.small 6 (.small 7 (.small 8 (.alone 9 (.alone 10 (.small 11 (.small 12 (.small 13 .nil)))))))))) (.alone 3 (.small 4 (.small 5 (.small 6 (.small 7 (.small 8 (.alone 10 (.small 11 (.small 12 (.small 13 .nil)))))))))))))) (Fam fun w' => zS w w' [zaP qb kd sz sl lt ag kk]) (fun w' => zS w w' [zaP qb kd sz sl lt ag kk]) (by kernel_rfl) (by rfl) (by kernel_rfl) (by kernel_rfl) H2.drew (Fam.st (fun _ h => h.pick [0])) ?_
  iterate 3 first | (apply plan_pass; rfl; rfl; intro K hK; go_simp; refine hK _ ?_; clear hK K) | (apply plan_step; rfl; rfl; (focus (intro I hI w1 h1'; have h1 := hI.2 _ h1'; have c0 := h1.cell 0 0 rfl rfl; have c1 := h1.cell 0 1 rfl rfl; have c2 := h1.cell 0 2 rfl rfl; have c3 := h1.cell 0 3 rfl rfl; have c4 := h1.cell 0 4 rfl rfl; have c5 := h1.cell 0 5 rfl rfl; first | (go_simp; first | rfl | exact ⟨rfl, h1'⟩ | (go_at_call 22; with_reducible exact Fam.call hI h1' (knew w1))))); intro K hK; go_simp; refine hK _ ?_; clear hK K)
  refine plan_two rfl rfl rfl rfl ?_ ?_
  · skip
    intro V hV w1 h1
    go_simp
    refine (kr0 w1 h1.kept).mono ?_; rintro e w2 ⟨hs, ho, ms0, os0, H0, rfl, hm, ho2, hmo, hoo, G1⟩; have hall0 : Hid (ms0.map (·.p) = ps0 ∧ os0.map (·.o) = O0 ∧ (∀ m ∈ ms0, Pm.own m ∈ H0) ∧ ∀ y ∈ os0, Om.own y ∈ H0) := zH ⟨hm, ho2, hmo, hoo⟩; clear hm ho2 hmo hoo; obtain ⟨pa0, pc0, rfl, -, -⟩ := slice_form' (G1.row 0 rfl); obtain ⟨oa0, oc0, rfl, -, -⟩ := slice_form' (G1.row 1 rfl); have HX : zS w w2 [znP (encP.all ms0) pa0 ms0.length pc0, zlP (encO.all os0) oa0 os0.length oc0, Pool H0, zaP qb kd sz sl lt ag kk] := h1.call0 G1; refine ⟨_, rfl, fun w' => zS w w' [znP (encP.all ms0) pa0 ms0.length pc0, zlP (encO.all os0) oa0 os0.length oc0, Pool H0, zaP qb kd sz sl lt ag kk], hV _ _ _ (fun _ h => h) (Fam.st (fun _ h => h.pick [3])) ?_, HX⟩
    intro K hK
    go_simp
    refine hK _ ?_; clear hK K hV V; clear HX h1 G1 w1 w2
    iterate 5 first | (apply plan_pass; rfl; rfl; intro K hK; go_simp; refine hK _ ?_; clear hK K) | (apply plan_step; rfl; rfl; (focus (intro I hI w1 h1'; have h1 := hI.2 _ h1'; first | (go_simp; first | rfl | exact ⟨rfl, h1'⟩))); intro K hK; go_simp; refine hK _ ?_; clear hK K)
    refine plan_one rfl rfl ?_; intro V hV w1 h1
    go_simp
    obtain ⟨sb0, hsb0⟩ := zNm w1.heap.size; have HX : zS w _ [zgP sb0, znP (encP.all ms0) pa0 ms0.length pc0, zlP (encO.all os0) oa0 os0.length oc0, Pool H0, zaP qb kd sz sl lt ag kk] := h1.allocAt hsb0 #[.int .i64 0, .slice none 0 0] 45; simp only [hsb0]; refine ⟨fun w' => zS w w' [zgP sb0, znP (encP.all ms0) pa0 ms0.length pc0, zlP (encO.all os0) oa0 os0.length oc0, Pool H0, zaP qb kd sz sl lt ag kk], hV _ _ _ (fun _ h => h) (Fam.st (fun _ h => h.pick [4])) ?_, HX⟩
    intro K hK
    go_simp
    refine hK _ ?_; clear hK K hV V; clear HX h1 hsb0 w1; refine plan_one rfl rfl ?_; intro V hV w1 h1; refine h1.came_store 0 rfl 45 (.tmp 5) (.tmp 23) rfl #[.int .i64 mk0, .slice pa0 ms0.length pc0] rfl rfl (by kernel_rfl) (Nat.zero_lt_succ _) rfl (by simp [allOne, Value.oneCell']) ?_
    intro w2 HX; refine ⟨fun w' => zS w w' [zfP sb0 mk0 pa0 ms0.length pc0, znP (encP.all ms0) pa0 ms0.length pc0, zlP (encO.all os0) oa0 os0.length oc0, Pool H0, zaP qb kd sz sl lt ag kk], hV _ _ _ (fun _ h => h) (Fam.st (fun _ h => h.pick [4])) ?_, HX⟩
    intro K hK
    go_simp
    refine hK _ ?_; clear hK K hV V; clear HX h1 w1 w2
    iterate 3 first | (apply plan_pass; rfl; rfl; intro K hK; go_simp; refine hK _ ?_; clear hK K) | (apply plan_step; rfl; rfl; (focus (intro I hI w1 h1'; have h1 := hI.2 _ h1'; first | (go_simp; first | rfl | exact ⟨rfl, h1'⟩))); intro K hK; go_simp; refine hK _ ?_; clear hK K)
    refine plan_nil ?_; intro w9 H9; go_wp2; go_meet; exact ⟨sb0, pa0, pc0, oa0, oc0, ms0, os0, H0, rfl, rfl, rfl, rfl, by assumption, H9.pick [0, 1, 2, 3, 4]⟩
  · skip
    intro V hV w1 h1
    go_simp
    obtain ⟨sb0, hsb0⟩ := zNm w1.heap.size; have HX : zS w _ [zgP sb0, zaP qb kd sz sl lt ag kk] := h1.allocAt hsb0 #[.int .i64 0, .slice none 0 0] 45; simp only [hsb0]; refine ⟨fun w' => zS w w' [zgP sb0, zaP qb kd sz sl lt ag kk], hV _ _ _ (fun _ h => h) (Fam.st (fun _ h => h.pick [1])) ?_, HX⟩
    intro K hK
    go_simp
    refine hK _ ?_; clear hK K hV V; clear HX h1 hsb0 w1; refine plan_one rfl rfl ?_; intro V hV w1 h1
    go_simp
    refine (kr0 w1 h1.kept).mono ?_; rintro e w2 ⟨hs, ho, ms0, os0, H0, rfl, hm, ho2, hmo, hoo, G1⟩; have hall0 : Hid (ms0.map (·.p) = ps0 ∧ os0.map (·.o) = O0 ∧ (∀ m ∈ ms0, Pm.own m ∈ H0) ∧ ∀ y ∈ os0, Om.own y ∈ H0) := zH ⟨hm, ho2, hmo, hoo⟩; clear hm ho2 hmo hoo; obtain ⟨pa0, pc0, rfl, -, -⟩ := slice_form' (G1.row 0 rfl); obtain ⟨oa0, oc0, rfl, -, -⟩ := slice_form' (G1.row 1 rfl); have HX : zS w w2 [znP (encP.all ms0) pa0 ms0.length pc0, zlP (encO.all os0) oa0 os0.length oc0, Pool H0, zgP sb0, zaP qb kd sz sl lt ag kk] := h1.call0 G1; refine ⟨_, rfl, fun w' => zS w w' [znP (encP.all ms0) pa0 ms0.length pc0, zlP (encO.all os0) oa0 os0.length oc0, Pool H0, zgP sb0, zaP qb kd sz sl lt ag kk], hV _ _ _ (fun _ h => h) (Fam.st (fun _ h => h.pick [4])) ?_, HX⟩
    intro K hK
    go_simp
    refine hK _ ?_; clear hK K hV V; clear HX h1 G1 w1 w2
    iterate 5 first | (apply plan_pass; rfl; rfl; intro K hK; go_simp; refine hK _ ?_; clear hK K) | (apply plan_step; rfl; rfl; (focus (intro I hI w1 h1'; have h1 := hI.2 _ h1'; first | (go_simp; first | rfl | exact ⟨rfl, h1'⟩))); intro K hK; go_simp; refine hK _ ?_; clear hK K)
    refine plan_one rfl rfl ?_; intro V hV w1 h1; refine h1.came_store 3 rfl 45 (.tmp 5) (.tmp 23) rfl #[.int .i64 mk0, .slice pa0 ms0.length pc0] rfl rfl (by kernel_rfl) (Nat.zero_lt_succ _) rfl (by simp [allOne, Value.oneCell']) ?_
    intro w2 HX; refine ⟨fun w' => zS w w' [znP (encP.all ms0) pa0 ms0.length pc0, zlP (encO.all os0) oa0 os0.length oc0, Pool H0, zfP sb0 mk0 pa0 ms0.length pc0, zaP qb kd sz sl lt ag kk], hV _ _ _ (fun _ h => h) (Fam.st (fun _ h => h.pick [4])) ?_, HX⟩
    intro K hK
    go_simp
    refine hK _ ?_; clear hK K hV V; clear HX h1 w1 w2
    iterate 3 first | (apply plan_pass; rfl; rfl; intro K hK; go_simp; refine hK _ ?_; clear hK K) | (apply plan_step; rfl; rfl; (focus (intro I hI w1 h1'; have h1 := hI.2 _ h1'; first | (go_simp; first | rfl | exact ⟨rfl, h1'⟩))); intro K hK; go_simp; refine hK _ ?_; clear hK K)
    refine plan_nil ?_; intro w9 H9; go_wp2; go_meet; exact ⟨sb0, pa0, pc0, oa0, oc0, ms0, os0, H0, rfl, rfl, rfl, rfl, by assumption, H9.pick [3, 0, 1, 2, 4]⟩
 case rest =>
  obtain ⟨sb0, pa0, pc0, oa0, oc0, ms0, os0, H0, rfl, rfl, rfl, rfl, hall0, HC0⟩ := hcut; clear H2 kr0; have c0 := HC0.cell 4 0 rfl rfl; have c1 := HC0.cell 4 1 rfl rfl; have c2 := HC0.cell 4 2 rfl rfl; have c3 := HC0.cell 4 3 rfl rfl; have c4 := HC0.cell 4 4 rfl rfl; have c5 := HC0.cell 4 5 rfl rfl; go_upto_region 7 with (go_at_call 23; go_must (refine (kd0 _ HC0.kept).mono ?_; rintro e w2 ⟨hs, ho, ms1, os1, H1, rfl, hm, ho2, hmo, hoo, G1⟩; have hall1 : Hid (ms1.map (·.p) = ps0 ∧ os1.map (·.o) = O0 ∧ (∀ m ∈ ms1, Pm.own m ∈ H1) ∧ ∀ y ∈ os1, Om.own y ∈ H1) := zH ⟨hm, ho2, hmo, hoo⟩; clear hm ho2 hmo hoo; obtain ⟨pa1, pc1, rfl, -, -⟩ := slice_form' (G1.row 0 rfl); obtain ⟨oa1, oc1, rfl, -, -⟩ := slice_form' (G1.row 1 rfl); have HX : zS w w2 [znP (encP.all ms1) pa1 ms1.length pc1, zlP (encO.all os1) oa1 os1.length oc1, Pool H1, zfP sb0 mk0 pa0 ms0.length pc0, znP (encP.all ms0) pa0 ms0.length pc0, zlP (encO.all os0) oa0 os0.length oc0, Pool H0, zaP qb kd sz sl lt ag kk] := HC0.call0 G1))
  have HY : zS w _ (_ :: _) := HX.allocAt rfl #[.int .i64 mk0, .slice pa1 ms1.length pc1] 45; obtain ⟨w3, hw3⟩ := zNm (w2.alloc (.cells #[.int .i64 mk0, .slice pa1 ms1.length pc1] 45)); obtain ⟨nb, hnb⟩ := zNm w2.heap.size; rw [hw3, hnb] at HY; (try rw [hw3]); (try simp only [hnb]); have HD : zS w w3 [zfP nb mk0 pa1 ms1.length pc1, znP (encP.all ms1) pa1 ms1.length pc1, zlP (encO.all os1) oa1 os1.length oc1, Pool H1, zfP sb0 mk0 pa0 ms0.length pc0, znP (encP.all ms0) pa0 ms0.length pc0, zlP (encO.all os0) oa0 os0.length oc0, Pool H0, zaP qb kd sz sl lt ag kk] := HY; clear hw3 hnb HY HX HC0 G1 c0 c1 c2 c3 c4 c5 kd0
  have hp0 : ∀ w' (L : List SP), zS w w' L → ∀ a b : Nat, L[a]? = some (znP (encP.all ms0) pa0 ms0.length pc0) → L[b]? = some (Pool H0) → PnsRO w' (.slice pa0 ms0.length pc0) ps0 := fun w' L h a b ha hb => by
   rw [← show ms0.map (·.p) = ps0 from hall0.out.1]; exact h.pnsRO a b ha hb hall0.out.2.2.1
  have hp1 : ∀ w' (L : List SP), zS w w' L → ∀ a b : Nat, L[a]? = some (znP (encP.all ms1) pa1 ms1.length pc1) → L[b]? = some (Pool H1) → PnsRO w' (.slice pa1 ms1.length pc1) ps0 := fun w' L h a b ha hb => by
   rw [← show ms1.map (·.p) = ps0 from hall1.out.1]; exact h.pnsRO a b ha hb hall1.out.2.2.1
  have ho0 : ∀ w' (L : List SP), zS w w' L → ∀ a b : Nat, L[a]? = some (zlP (encO.all os0) oa0 os0.length oc0) → L[b]? = some (Pool H0) → OtsRO w' (.slice oa0 os0.length oc0) O0 := fun w' L h a b ha hb => by
   rw [← show os0.map (·.o) = O0 from hall0.out.2.1]; exact h.otsRO a b ha hb hall0.out.2.2.2
  have ho1 : ∀ w' (L : List SP), zS w w' L → ∀ a b : Nat, L[a]? = some (zlP (encO.all os1) oa1 os1.length oc1) → L[b]? = some (Pool H1) → OtsRO w' (.slice oa1 os1.length oc1) O0 := fun w' L h a b ha hb => by
   rw [← show os1.map (·.o) = O0 from hall1.out.2.1]; exact h.otsRO a b ha hb hall1.out.2.2.2
  have hp0h := zH hp0; have hp1h := zH hp1; have ho0h := zH ho0; have ho1h := zH ho1; clear hp0 hp1 ho0 ho1; have y0 := HD.cell 0 0 rfl rfl; have y1 := HD.cell 0 1 rfl rfl; have x0 := HD.cell 4 0 rfl rfl; have x1 := HD.cell 4 1 rfl rfl
  go_wp2_with (first
   | (go_at_call 24; go_must (refine (St.callPast (ksm.out _ _ _ (hp0h.out _ _ HD 5 7 rfl rfl) (hp1h.out _ _ HD 1 3 rfl rfl)) HD).mono ?_; rintro e w7 ⟨rfl, HP⟩))
   | (go_at_call 25; go_must (refine (St.callPast (kso.out _ _ _ (ho0h.out _ _ HP 6 7 rfl rfl) (ho1h.out _ _ HP 2 3 rfl rfl)) HP).mono ?_; rintro e w8 ⟨rfl, HO⟩))
   | (go_at_call 26; go_must (refine (St.callPast (kpo.out _ _ _ (ho0h.out _ _ HO 6 7 rfl rfl) (ho1h.out _ _ HO 2 3 rfl rfl)) HO).mono ?_; rintro e w9 ⟨rfl, HU⟩)))
  go_ret; exact ⟨rfl, HU.below (Nat.le_refl _) (fun _ h => h.elim)⟩
end Go.Proofs.YtiglgfonhdfpmaaGreat
namespace Go.Proofs.YtiglgfonhdfpmaaGreat
open Go.RowKit
theorem qry_read {w : World} {cs : List Value} (h : R Tryz.prog w 23 cs) : ∃ q : Qry, cs = (qyC q).toList := by
 have hl : cs.length = 6 := (R.struct Tryz.underlying23 h).1.trans (by kernel_rfl)
 obtain ⟨c0, c1, c2, c3, c4, c5, rfl⟩ : ∃ a b c d e f, cs = [a, b, c, d, e, f] := by
  match cs, hl with
  | [a, b, c, d, e, f], _ => exact ⟨a, b, c, d, e, f, rfl⟩
 have r0 : R Tryz.prog w 3 [c0] := R.field Tryz.underlying23 h 0 rfl (o := 0) (n := 1) rfl rfl (by kernel_rfl)
 have r1 : R Tryz.prog w 3 [c1] := R.field Tryz.underlying23 h 1 rfl (o := 1) (n := 1) rfl rfl (by kernel_rfl)
 have r2 : R Tryz.prog w 3 [c2] := R.field Tryz.underlying23 h 2 rfl (o := 2) (n := 1) rfl rfl (by kernel_rfl)
 have r3 : R Tryz.prog w 3 [c3] := R.field Tryz.underlying23 h 3 rfl (o := 3) (n := 1) rfl rfl (by kernel_rfl)
 have r4 : R Tryz.prog w 3 [c4] := R.field Tryz.underlying23 h 4 rfl (o := 4) (n := 1) rfl rfl (by kernel_rfl)
 have r5 : R Tryz.prog w 3 [c5] := R.field Tryz.underlying23 h 5 rfl (o := 5) (n := 1) rfl rfl (by kernel_rfl)
 obtain ⟨n0, e0, _⟩ := R.int Tryz.underlying3 r0; obtain ⟨n1, e1, _⟩ := R.int Tryz.underlying3 r1; obtain ⟨n2, e2, _⟩ := R.int Tryz.underlying3 r2; obtain ⟨n3, e3, _⟩ := R.int Tryz.underlying3 r3; obtain ⟨n4, e4, _⟩ := R.int Tryz.underlying3 r4; obtain ⟨n5, e5, _⟩ := R.int Tryz.underlying3 r5; simp only [List.cons.injEq, and_true] at e0 e1 e2 e3 e4 e5; subst e0 e1 e2 e3 e4 e5; exact ⟨⟨n0, n1, n2, n3, n4, n5⟩, rfl⟩
theorem qry_agg {w : World} {v : Value} (h : R Tryz.prog w 23 v.cells.toList) (hs : ∃ cs, v = .agg cs) : ∃ q : Qry, v = qyV q := by
 obtain ⟨cs, rfl⟩ := hs; obtain ⟨q, e⟩ := qry_read h; refine ⟨q, ?_⟩
 have : cs = qyC q := by
  apply Array.ext'
  exact e
 rw [this]
end Go.Proofs.YtiglgfonhdfpmaaGreat
