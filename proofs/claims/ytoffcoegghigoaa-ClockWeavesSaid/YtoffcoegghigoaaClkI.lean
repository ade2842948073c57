/- law28's first. -/
import Derived.Test.YtoffcoegghigoaaClkH
namespace Go.Proofs.Ytoffcoegghigoaa
open Go.RowKit

theorem itms_blk {w : World} {b : Nat} {t : TypeId} {l : List Itm} (hb : w.heap[b]? = some (.cells (l.map fun x => (itmC x).toList).flatten.toArray t (0, 0))) (hf : ∀ x ∈ l, x.fits) : ItmsRO w (.slice (some ⟨b, 0, none⟩) l.length l.length) l := by
  refine ⟨_, _, rfl, Nat.le_refl _, hf, fun _ => ⟨b, 0, rfl, blk_lt hb, fun i x hi j z hj => ?_⟩⟩
  show w.cell? ⟨b, 0 + i * 4 + j, none⟩ = some z
  rw [Nat.zero_add]
  refine cell_blk' hb ?_
  rw [List.getElem?_toArray]
  exact itms_get hi hj
def xA : Itm := ⟨1, [97], 9, 0⟩
def xB : Itm := ⟨1, [97], 4, 0⟩
theorem xs_fit : ∀ x ∈ [xA, xB], x.fits := by
  intro x hx
  simp only [List.mem_cons, List.not_mem_nil, or_false] at hx
  rcases hx with rfl | rfl <;> simp [Itm.fits, xA, xB]
theorem xs_count : [xA, xB].filter Itm.counts = [xA, xB] := by
  have h1 : xA.counts = true := by decide
  have h2 : xB.counts = true := by decide
  simp [h1, h2]
abbrev xsV (b : Nat) : Value := .slice (some ⟨b, 0, none⟩) 2 2
abbrev xsO : Obj := .cells #[.int .i64 1, .string ⟨#[97]⟩, .int .i64 9, .int .i64 0, .int .i64 1, .string ⟨#[97]⟩, .int .i64 4, .int .i64 0] 85
theorem xs_ro (w : World) : ItmsRO (w.alloc xsO) (xsV w.heap.size) [xA, xB] := itms_blk (l := [xA, xB]) (heap_alloc_new w xsO) xs_fit
theorem weave_xs (w : World) : Calls Try.prog 42 #[.int .i64 2, .int .i64 5, xsV w.heap.size] (w.alloc xsO) fun e w' => ∃ a c, e = .returned (.tuple #[.slice a 3 c, .int .i64 0]) ∧ Below w.heap.size w w' := by
  have k := clk_weave (slack := 2) (step := 5) (by decide) (xs_ro w) (by decide)
  rw [xs_count] at k
  refine k.mono ?_
  rintro e w' ⟨v', rfl, H⟩
  have hl : ((newClk 2 5).weave [xA, xB]).length = 3 := rfl
  rw [hl] at H
  obtain ⟨a, c, rfl, _⟩ := slice_form' (H.row 0 rfl)
  have H0 := ((St.nil (fun _ => False) w).skip xsO).call0 (l1' := [_]) H
  exact ⟨a, c, rfl, H0.below (Nat.le_refl _) (fun _ h => h.elim)⟩
theorem disorder_xs (w : World) : Calls Try.prog 45 #[xsV w.heap.size] (w.alloc xsO) fun e w' => e = .returned (.int .i64 5) ∧ Below w.heap.size w w' := by
  have k := clk_disorder (xs_ro w) (by decide)
  rw [xs_count] at k
  refine k.mono ?_
  rintro e w' ⟨rfl, H⟩
  refine ⟨rfl, ?_⟩
  have H0 := ((St.nil (fun _ => False) w).skip xsO).past H
  exact H0.below (Nat.le_refl _) (fun _ h => h.elim)
theorem sorted_xs (w : World) : Calls Try.prog 47 #[xsV w.heap.size] (w.alloc xsO) fun e w' => ∃ v c b, (e = .returned v ∧ v = .slice (some ⟨b, 0, none⟩) 2 c) ∧ (w'.cell? ⟨b, 0, none⟩ = some (.int .i64 1) ∧ w'.cell? ⟨b, 1, none⟩ = some (.string ⟨#[97]⟩) ∧ w'.cell? ⟨b, 2, none⟩ = some (.int .i64 4) ∧ w'.cell? ⟨b, 3, none⟩ = some (.int .i64 0)) ∧ Below w.heap.size w w' := by
  have k := clk_sorted_few (xs_ro w) (by decide) (by rw [xs_count]; decide) (by rw [xs_count]; simp)
  rw [xs_count] at k
  refine k.mono ?_
  rintro e w' ⟨v', rfl, H⟩
  have hl : (isr [xA, xB]).reverse = [xB, xA] := rfl
  rw [hl] at H
  obtain ⟨g, cap, rfl⟩ := row_form (N := 2) (H.row 0 rfl) rfl (by decide)
  obtain ⟨q0, q1, q2, q3⟩ := row_itms (j := 0) (x := xB) (H.row 0 rfl) rfl
  have H0 := ((St.nil (fun _ => False) w).skip xsO).call0 (l1' := [_]) H
  exact ⟨_, cap, g, ⟨rfl, rfl⟩, ⟨q0, q1, q2, q3⟩, H0.below (Nat.le_refl _) (fun _ h => h.elim)⟩

abbrev xsC : Array Value := #[.int .i64 1, .string ⟨#[97]⟩, .int .i64 9, .int .i64 0, .int .i64 1, .string ⟨#[97]⟩, .int .i64 4, .int .i64 0]
theorem disorder_at (w : World) (b : Nat) (h : w.heap[b]? = some (.cells xsC 85 (0, 0))) : Calls Try.prog 45 #[.slice (some ⟨b, 0, none⟩) 2 2] w fun e w' => e = .returned (.int .i64 5) ∧ Below w.heap.size w w' := by
  have k := clk_disorder (itms_blk (l := [xA, xB]) h xs_fit) (by decide)
  rw [xs_count] at k
  exact k
theorem sorted_at (w : World) (b : Nat) (h : w.heap[b]? = some (.cells xsC 85 (0, 0))) : Calls Try.prog 47 #[.slice (some ⟨b, 0, none⟩) 2 2] w fun e w' => ∃ g c, e = .returned (.slice (some ⟨g, 0, none⟩) 2 c) ∧ St (fun _ => False) w w' [Row 85 4 (.slice (some ⟨g, 0, none⟩) 2 c) 2 (itms [xB, xA])] := by
  have k := clk_sorted_few (itms_blk (l := [xA, xB]) h xs_fit) (by decide) (by rw [xs_count]; decide) (by rw [xs_count]; simp)
  rw [xs_count] at k
  refine k.mono ?_
  rintro e w' ⟨v', rfl, H⟩
  have hl : (isr [xA, xB]).reverse = [xB, xA] := rfl
  rw [hl] at H
  obtain ⟨g, cap, rfl⟩ := row_form (N := 2) (H.row 0 rfl) rfl (by decide)
  exact ⟨g, cap, rfl, H⟩

set_option maxHeartbeats 8000000 in
set_option maxRecDepth 100000 in
theorem first28 (w : World) : Calls Try.prog 34 #[] w fun e w' => e = .returned (.bool true) ∧ Below w.heap.size w w' := by
  have kn := clk_new (slack := 2) (step := 5) (by decide) w
  have kt0 := fun (w' : World) (b : Nat) (h : w'.heap[b]? = some (.cells (clkC ⟨2, 5, -1, -1⟩) 87 (0, 0))) => (clk_tide (c := ⟨2, 5, -1, -1⟩) (by simp [Clk.ok]) h)
  have ks1 := fun (S : Nat → Prop) (w' : World) (b : Nat) (K : Sep w' [Blk b (clkC ⟨2, 5, -1, -1⟩) 87] S) => clk_see (t := 3) (by simp [Clk.ok]) K
  have ks2 := fun (S : Nat → Prop) (w' : World) (b : Nat) (K : Sep w' [Blk b (clkC ⟨2, 5, 3, 1⟩) 87] S) => clk_see (t := 7) (by simp [Clk.ok]) K
  have ks3 := fun (S : Nat → Prop) (w' : World) (b : Nat) (K : Sep w' [Blk b (clkC ⟨2, 5, 7, 1⟩) 87] S) => clk_see (t := 8) (by simp [Clk.ok]) K
  have e1 : Clk.see ⟨2, 5, -1, -1⟩ 3 = (⟨2, 5, 3, 1⟩, 1, true) := rfl
  have e2 : Clk.see ⟨2, 5, 3, 1⟩ 7 = (⟨2, 5, 7, 1⟩, 0, false) := rfl
  have e3 : Clk.see ⟨2, 5, 7, 1⟩ 8 = (⟨2, 5, 8, 6⟩, 6, true) := rfl
  simp only [e1] at ks1
  simp only [e2] at ks2
  simp only [e3] at ks3
  clear e1 e2 e3
  have kt1 := fun (w' : World) (b : Nat) (h : w'.heap[b]? = some (.cells (clkC ⟨2, 5, 8, 6⟩) 87 (0, 0))) => (clk_tide (c := ⟨2, 5, 8, 6⟩) (by simp [Clk.ok]) h)
  have kl := fun (w' : World) (b : Nat) (h : w'.heap[b]? = some (.cells (clkC ⟨2, 5, 8, 6⟩) 87 (0, 0))) => (clk_last (c := ⟨2, 5, 8, 6⟩) h)
  have kb := fun w' => clk_bad (slack := -1) (step := 5) (by decide) w'
  have kw := weave_xs
  have kd := disorder_xs
  have kso := sorted_xs
  simp only [show ((-1 : Int) < 0) = True by simp, if_true, decide_true, Bool.not_true] at kt0
  simp only [show ((8 : Int) < 0) = False by simp, show ((6 : Int) < 0) = False by simp, if_false, decide_false, Bool.not_false, show (8 : Int) - 2 = 6 from rfl] at kt1 kl
  go_enter Try.func34, Try.ntmps34
  go_upto_region 4 with (go_at_call 35; go_must (refine kn.mono ?_; rintro e w1 ⟨bc, rfl, H1⟩))
  have H1 : St (fun _ => False) w w1 [Blk bc (clkC ⟨2, 5, -1, -1⟩) 87] := H1
  clear kn
  go_upto_region 5 with (go_at_call 40; go_must (refine (St.callPast (kt0 w1 bc (H1.blk 0 rfl)) H1).mono ?_; rintro e w2 ⟨rfl, H2⟩; obtain ⟨S2, K2, G2⟩ := St.call (l1 := [_]) (l2 := []) H2))
  clear kt0 H1
  go_upto_region 6 with (go_at_call 37; go_must (refine (ks1 _ _ _ K2).mono ?_; rintro e w3 ⟨rfl, H3⟩; have H3 := G2 _ _ H3; obtain ⟨S3, K3, G3⟩ := St.call (l1 := [_]) (l2 := []) H3))
  clear ks1 H2 K2 G2
  go_upto_region 7 with (go_at_call 37; go_must (refine (ks2 _ _ _ K3).mono ?_; rintro e w4 ⟨rfl, H4⟩; have H4 := G3 _ _ H4; obtain ⟨S4, K4, G4⟩ := St.call (l1 := [_]) (l2 := []) H4))
  clear ks2 H3 K3 G3
  go_upto_region 8 with (go_at_call 37; go_must (refine (ks3 _ _ _ K4).mono ?_; rintro e w5 ⟨rfl, H5⟩; have H5 := G4 _ _ H5))
  clear ks3 H4 K4 G4
  have H5 : St (fun _ => False) w w5 [Blk bc (clkC ⟨2, 5, 8, 6⟩) 87] := H5
  go_upto_region 9 with (go_at_call 40; go_must (refine (St.callPast (kt1 w5 bc (H5.blk 0 rfl)) H5).mono ?_; rintro e w6 ⟨rfl, H6⟩))
  clear kt1 H5
  go_upto_region 10 with (go_at_call 39; go_must (refine (St.callPast (kl w6 bc (H6.blk 0 rfl)) H6).mono ?_; rintro e w7 ⟨rfl, H7⟩))
  clear kl H6
  go_upto_region 11 with (go_at_call 35; go_must (refine (kb w7).mono ?_; rintro e w8 ⟨rfl, rfl⟩))
  go_upto_region 12 with (fail)
  have HA : St (fun _ => False) w _ [_, _] := H7.allocAt rfl #[.int .i64 1, .string ⟨#[97]⟩, .int .i64 9, .int .i64 0] 85
  have HB : St (fun _ => False) w _ [_, _, _] := HA.allocAt (B := w8.heap.size + 1) (Array.size_push _) #[.int .i64 1, .string ⟨#[97]⟩, .int .i64 4, .int .i64 0] 85
  obtain ⟨b, hb⟩ : ∃ b, w8.heap.size = b := ⟨_, rfl⟩
  obtain ⟨w9, hw9⟩ : ∃ w9, (w8.alloc (.cells #[.int .i64 1, .string ⟨#[97]⟩, .int .i64 9, .int .i64 0] 85)).alloc (.cells #[.int .i64 1, .string ⟨#[97]⟩, .int .i64 4, .int .i64 0] 85) = w9 := ⟨_, rfl⟩
  rw [hw9, hb] at HB
  rw [hw9]
  simp only [hb]
  clear hw9 hb HA H7 kb
  have HB : St (fun _ => False) w w9 [Blk (b + 1) #[.int .i64 1, .string ⟨#[97]⟩, .int .i64 4, .int .i64 0] 85, Blk b #[.int .i64 1, .string ⟨#[97]⟩, .int .i64 9, .int .i64 0] 85, Blk bc (clkC ⟨2, 5, 8, 6⟩) 87] := HB
  have c0 := HB.cell 0 0 rfl rfl
  have c1 := HB.cell 0 1 rfl rfl
  have c2 := HB.cell 0 2 rfl rfl
  have c3 := HB.cell 0 3 rfl rfl
  have d0 := HB.cell 1 0 rfl rfl
  have d1 := HB.cell 1 1 rfl rfl
  have d2 := HB.cell 1 2 rfl rfl
  have d3 := HB.cell 1 3 rfl rfl
  go_upto_region 13 with (go_at_call 42; go_must (refine (kw _).mono ?_; rintro e w10 ⟨wa, wc, rfl, hb10⟩; have H10 := HB.past hb10; have c0 := H10.cell 0 0 rfl rfl; have c1 := H10.cell 0 1 rfl rfl; have c2 := H10.cell 0 2 rfl rfl; have c3 := H10.cell 0 3 rfl rfl; have d0 := H10.cell 1 0 rfl rfl; have d1 := H10.cell 1 1 rfl rfl; have d2 := H10.cell 1 2 rfl rfl; have d3 := H10.cell 1 3 rfl rfl))
  clear HB kw c0 c1 c2 c3 d0 d1 d2 d3
  refine wp_script [(0, false), (1, false), (2, false), (3, false), (4, false), (5, false), (6, false), (7, false), (8, false), (9, false), (10, false), (11, false), (12, false), (13, false), (14, false), (15, false), (16, false), (17, false), (18, false), (19, false), (20, false), (21, false), (22, false), (23, false), (24, false), (25, false), (26, false), (27, false), (28, false), (29, false), (30, false), (31, false), (32, false), (33, false), (34, false), (35, false), (36, false), (37, false), (38, false), (39, false), (40, false), (41, false), (42, false), (43, false), (44, false), (45, false), (46, false), (47, false), (48, false), (49, false), (50, true), (51, false), (52, false), (53, false), (54, false), (55, false), (56, false), (61, false), (57, true), (58, true), (59, false), (60, false), (62, false), (63, false), (64, false)] (Fam fun w' => St (fun _ => False) w w' [Blk (b + 1) #[.int .i64 1, .string ⟨#[97]⟩, .int .i64 4, .int .i64 0] 85, Blk b #[.int .i64 1, .string ⟨#[97]⟩, .int .i64 9, .int .i64 0] 85, Blk bc (clkC ⟨2, 5, 8, 6⟩) 87]) (fun w' => St (fun _ => False) w w' [Blk (b + 1) #[.int .i64 1, .string ⟨#[97]⟩, .int .i64 4, .int .i64 0] 85, Blk b #[.int .i64 1, .string ⟨#[97]⟩, .int .i64 9, .int .i64 0] 85, Blk bc (clkC ⟨2, 5, 8, 6⟩) 87]) (by kernel_rfl) (by rfl) (by kernel_rfl) (by kernel_rfl) H10.drew (Fam.st (fun _ h => h)) ?_
  iterate 50 first
    | (apply script_pass
       · rfl
       · rfl
       intro K hK
       go_simp
       refine hK _ ?_
       clear hK K)
    | (apply script_step
       · rfl
       · rfl
       · intro I hI w1 h1'
         have h1 := hI.2 _ h1'
         have c0 := h1.cell 0 0 rfl rfl
         have c1 := h1.cell 0 1 rfl rfl
         have c2 := h1.cell 0 2 rfl rfl
         have c3 := h1.cell 0 3 rfl rfl
         have d0 := h1.cell 1 0 rfl rfl
         have d1 := h1.cell 1 1 rfl rfl
         have d2 := h1.cell 1 2 rfl rfl
         have d3 := h1.cell 1 3 rfl rfl
         first
           | (go_simp
              first
                | rfl
                | exact ⟨rfl, h1'⟩
             )
       intro K hK
       go_simp
       refine hK _ ?_
       clear hK K)
  obtain ⟨V1, hV1⟩ := hide_rel (fun v I' => ∃ bb, v = .slice (some ⟨bb, 0, none⟩) 2 2 ∧ I' = fun w' => St (fun _ => False) w w' [Blk bb xsC 85, Blk (b + 1) #[.int .i64 1, .string ⟨#[97]⟩, .int .i64 4, .int .i64 0] 85, Blk b #[.int .i64 1, .string ⟨#[97]⟩, .int .i64 9, .int .i64 0] 85, Blk bc (clkC ⟨2, 5, 8, 6⟩) 87])
  refine script_big V1 rfl rfl ?_ ?_
  · intro w3 h3
    have c0 := h3.cell 0 0 rfl rfl
    go_simp
    exact ⟨_, (hV1.out _ _).2 ⟨_, rfl, rfl⟩, h3.alloc xsC 85⟩
  intro v I' hvI
  obtain ⟨bb, rfl, rfl⟩ := (hV1.out _ _).1 hvI
  clear hvI hV1
  refine ⟨Fam fun w' => St (fun _ => False) w w' [Blk bb xsC 85, Blk (b + 1) #[.int .i64 1, .string ⟨#[97]⟩, .int .i64 4, .int .i64 0] 85, Blk b #[.int .i64 1, .string ⟨#[97]⟩, .int .i64 9, .int .i64 0] 85, Blk bc (clkC ⟨2, 5, 8, 6⟩) 87], Fam.mono (fun _ h => h.tail), Fam.st (fun _ h => h), ?_⟩
  intro K hK
  go_simp
  refine hK _ ?_
  clear hK K
  iterate 7 first
    | (apply script_pass
       · rfl
       · rfl
       intro K hK
       go_simp
       refine hK _ ?_
       clear hK K)
    | (apply script_step
       · rfl
       · rfl
       · intro I hI w1 h1'
         have h1 := hI.2 _ h1'
         have c0 := h1.cell 1 0 rfl rfl
         have c1 := h1.cell 1 1 rfl rfl
         have c2 := h1.cell 1 2 rfl rfl
         have c3 := h1.cell 1 3 rfl rfl
         have d0 := h1.cell 2 0 rfl rfl
         have d1 := h1.cell 2 1 rfl rfl
         have d2 := h1.cell 2 2 rfl rfl
         have d3 := h1.cell 2 3 rfl rfl
         have n1 := disorder_at w1 bb (h1.blk 0 rfl)
         first
           | (go_simp
              first
                | rfl
                | exact ⟨rfl, h1'⟩
                | (go_at_call 45; with_reducible exact Fam.call hI h1' n1)
             )
       intro K hK
       go_simp
       refine hK _ ?_
       clear hK K)
  obtain ⟨V2, hV2⟩ := hide_rel (fun v I' => ∃ b2, v = .slice (some ⟨b2, 0, none⟩) 2 2 ∧ I' = fun w' => St (fun _ => False) w w' [Blk b2 xsC 85, Blk bb xsC 85, Blk (b + 1) #[.int .i64 1, .string ⟨#[97]⟩, .int .i64 4, .int .i64 0] 85, Blk b #[.int .i64 1, .string ⟨#[97]⟩, .int .i64 9, .int .i64 0] 85, Blk bc (clkC ⟨2, 5, 8, 6⟩) 87])
  refine script_big V2 rfl rfl ?_ ?_
  · intro w3 h3
    go_simp
    exact ⟨_, (hV2.out _ _).2 ⟨_, rfl, rfl⟩, h3.alloc xsC 85⟩
  intro v I' hvI
  obtain ⟨b2, rfl, rfl⟩ := (hV2.out _ _).1 hvI
  clear hvI hV2
  refine ⟨Fam fun w' => St (fun _ => False) w w' [Blk b2 xsC 85, Blk bb xsC 85, Blk (b + 1) #[.int .i64 1, .string ⟨#[97]⟩, .int .i64 4, .int .i64 0] 85, Blk b #[.int .i64 1, .string ⟨#[97]⟩, .int .i64 9, .int .i64 0] 85, Blk bc (clkC ⟨2, 5, 8, 6⟩) 87], Fam.mono (fun _ h => h.tail), Fam.st (fun _ h => h), ?_⟩
  intro K hK
  go_simp
  refine hK _ ?_
  clear hK K
  obtain ⟨V3, hV3⟩ := hide_rel (fun v I' => ∃ g cc, v = .slice (some ⟨g, 0, none⟩) 2 cc ∧ I' = fun w' => St (fun _ => False) w w' [Row 85 4 (.slice (some ⟨g, 0, none⟩) 2 cc) 2 (itms [xB, xA]), Blk b2 xsC 85, Blk bb xsC 85, Blk (b + 1) #[.int .i64 1, .string ⟨#[97]⟩, .int .i64 4, .int .i64 0] 85, Blk b #[.int .i64 1, .string ⟨#[97]⟩, .int .i64 9, .int .i64 0] 85, Blk bc (clkC ⟨2, 5, 8, 6⟩) 87])
  refine script_big V3 rfl rfl ?_ ?_
  · intro w3 h3
    go_simp
    refine (sorted_at w3 b2 (h3.blk 0 rfl)).mono ?_
    rintro e w4 ⟨g, cc, rfl, H4⟩
    exact ⟨_, rfl, _, (hV3.out _ _).2 ⟨g, cc, rfl, rfl⟩, h3.call0 (l1' := [_]) H4⟩
  intro v I' hvI
  obtain ⟨g, cc, rfl, rfl⟩ := (hV3.out _ _).1 hvI
  clear hvI hV3
  refine ⟨Fam fun w' => St (fun _ => False) w w' [Row 85 4 (.slice (some ⟨g, 0, none⟩) 2 cc) 2 (itms [xB, xA]), Blk b2 xsC 85, Blk bb xsC 85, Blk (b + 1) #[.int .i64 1, .string ⟨#[97]⟩, .int .i64 4, .int .i64 0] 85, Blk b #[.int .i64 1, .string ⟨#[97]⟩, .int .i64 9, .int .i64 0] 85, Blk bc (clkC ⟨2, 5, 8, 6⟩) 87], Fam.mono (fun _ h => h.tail), Fam.st (fun _ h => h), ?_⟩
  intro K hK
  go_simp
  refine hK _ ?_
  clear hK K
  iterate 5 first
    | (apply script_pass
       · rfl
       · rfl
       intro K hK
       go_simp
       refine hK _ ?_
       clear hK K)
    | (apply script_step
       · rfl
       · rfl
       · intro I hI w1 h1'
         have h1 := hI.2 _ h1'
         obtain ⟨g0, g1, g2, g3⟩ := row_itms (j := 0) (x := xB) (h1.row 0 rfl) rfl
         simp only [Nat.zero_mul, Nat.zero_add, xB, textV] at g0 g1 g2 g3
         have c0 := h1.cell 3 0 rfl rfl
         have c1 := h1.cell 3 1 rfl rfl
         have c2 := h1.cell 3 2 rfl rfl
         have c3 := h1.cell 3 3 rfl rfl
         first
           | (go_simp
              first
                | rfl
                | exact ⟨rfl, h1'⟩
             )
       intro K hK
       go_simp
       refine hK _ ?_
       clear hK K)
  refine script_nil ?_
  intro w13 H13
  go_wp2
  go_ret
  exact ⟨rfl, H13.below (Nat.le_refl _) (fun _ h => h.elim)⟩
end Go.Proofs.Ytoffcoegghigoaa
