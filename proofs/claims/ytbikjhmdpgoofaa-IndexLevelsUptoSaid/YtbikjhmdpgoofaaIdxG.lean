/- What the index's statements ask first. A walk without condition. -/
import Derived.Test.YtbikjhmdpgoofaaIdxR
namespace Go.Proofs.Ytbikjhmdpgoofaa
open Go.RowKit

def i1 : Itm := ⟨1, [97], 3, 0⟩
def i2 : Itm := ⟨1, [97], 9, 0⟩
def sX : Str := ⟨1, 1, 3, 9⟩
def sY : Str := ⟨2, 2, 1, 0⟩
def sJ : Str := ⟨1, 2, 3, 9⟩
theorem e32 : oneS 1 [i1, i2] = sX ∧ oneS 2 [] = sY ∧ climb 2 3 [sX, sY, sY] = [[sX, sY, sY], [sJ, sY], [sJ]] ∧ lookS [[sX, sY, sY], [sJ, sY], [sJ]] 2 4 5 2 0 = ([sX], 5) ∧ joinS sX sY = sJ ∧ meetsS sX 9 10 = true ∧ meetsS sX 10 11 = false ∧
    ([i1, i2].filter (timeB 4 9)).length = 1 := by decide +kernel
theorem fit12 : ∀ x ∈ [i1, i2], x.fits := by
  intro x hx
  simp only [List.mem_cons, List.not_mem_nil, or_false] at hx
  rcases hx with rfl | rfl
  · simp [Itm.fits, i1]
  · simp [Itm.fits, i2]
theorem Try.info82 : (Try.prog.info? 82).map (fun i => (i.zero, i.size, i.bytes)) = some (some (.agg (recC (.int .i64 0) (.int .i64 0) (.slice none 0 0)).toArray), 36, 80) := by kernel_rfl
def rX (bi : Nat) : Rcd := ⟨1, .slice (some ⟨bi, 0, none⟩) 2 2, [i1, i2], recC (.int .i64 1) (.int .i64 1) (.slice (some ⟨bi, 0, none⟩) 2 2)⟩
def rY : Rcd := ⟨2, .slice none 0 0, [], recC (.int .i64 2) (.int .i64 2) (.slice none 0 0)⟩
theorem goodXY {w : World} {bi : Nat} (h : ItmsRO w (.slice (some ⟨bi, 0, none⟩) 2 2) [i1, i2]) : ∀ x ∈ [rX bi, rY, rY], x.good w := by
  have hX : (rX bi).good w := ⟨rfl, rfl, rfl, h, by simp [rX], by simp [rX], recC_one _ _ _ _ _⟩
  have hY : rY.good w := ⟨rfl, rfl, rfl, ⟨none, 0, rfl, Nat.le_refl _, by simp [rY], fun h => absurd rfl h⟩, by simp [rY], by simp [rY], recC_one _ _ _ _ _⟩
  intro x hx
  simp only [List.mem_cons, List.not_mem_nil, or_false] at hx
  rcases hx with rfl | rfl | rfl
  · exact hX
  · exact hY
  · exact hY
section
attribute [local go_sem ↓] run_load_rec run_store_rec run_rec3 run_rec2
set_option maxHeartbeats 4000000 in
set_option maxRecDepth 100000 in
theorem first32 (w : World) : Calls Try.prog 27 #[] w fun e w' => e = .returned (.bool true) ∧ Below w.heap.size w w' := by
  go_enter Try.func27, Try.ntmps27
  go_upto_region 1 with (fail)
  refine wp_region_lit ?_
  refine Great.wpList_runTo rfl _ rfl (.agg (itmC i1)) w (by kernel_rfl) ?_
  refine Great.wpList_runTo rfl _ rfl (.agg (itmC i2)) w (by kernel_rfl) ?_
  refine Great.wpList_runTo rfl _ rfl (.slice (some ⟨w.heap.size, 0, none⟩) 2 2) (w.alloc (.cells ((itmC i1).toList ++ (itmC i2).toList).toArray 108)) (by kernel_rfl) ?_
  have H1 : St (fun _ => False) w _ [Blk w.heap.size ((itmC i1).toList ++ (itmC i2).toList).toArray 108] := (St.nil (fun _ => False) w).alloc _ _
  generalize (w.alloc (.cells ((itmC i1).toList ++ (itmC i2).toList).toArray 108)) = w1 at H1 ⊢
  obtain ⟨bi, hbi⟩ : ∃ bi, w.heap.size = bi := ⟨_, rfl⟩
  rw [hbi] at H1 ⊢
  refine Great.wpList_runTo rfl _ rfl (.agg (recC (.int .i64 1) (.int .i64 1) (.slice (some ⟨bi, 0, none⟩) 2 2)).toArray) w1 (by kernel_rfl) ?_
  refine Great.wpList_runTo rfl _ rfl (.pointer (some ⟨w1.heap.size, 0, none⟩)) (w1.alloc (.cells (recC (.int .i64 0) (.int .i64 0) (.slice none 0 0)).toArray 82)) (by kernel_rfl) ?_
  refine wpList_store_rowTo rfl _ _ _ rfl rfl w1.heap.size (recC (.int .i64 1) (.int .i64 1) (.slice (some ⟨bi, 0, none⟩) 2 2)).toArray (by kernel_rfl) (by kernel_rfl) 82 (recC (.int .i64 0) (.int .i64 0) (.slice none 0 0)).toArray ?_ (by kernel_rfl) rfl (recC_one _ _ _ _ _) ?_
  · exact (H1.alloc _ _).blk 0 rfl
  have H2 := (H1.alloc (recC (.int .i64 0) (.int .i64 0) (.slice none 0 0)).toArray 82).setRow 0 rfl (recC (.int .i64 1) (.int .i64 1) (.slice (some ⟨bi, 0, none⟩) 2 2)).toArray
  generalize (w1.alloc (.cells (recC (.int .i64 0) (.int .i64 0) (.slice none 0 0)).toArray 82)).setRow w1.heap.size (recC (.int .i64 1) (.int .i64 1) (.slice (some ⟨bi, 0, none⟩) 2 2)).toArray = w2 at H2 ⊢
  obtain ⟨bx, hbx⟩ : ∃ bx, w1.heap.size = bx := ⟨_, rfl⟩
  rw [hbx] at H2 ⊢
  clear H1
  go_upto_region 2 with (fail)
  refine wp_region_lit ?_
  refine Great.wpList_runTo rfl _ rfl (.agg (recC (.int .i64 2) (.int .i64 2) (.slice none 0 0)).toArray) w2 (by kernel_rfl) ?_
  refine Great.wpList_runTo rfl _ rfl (.pointer (some ⟨w2.heap.size, 0, none⟩)) (w2.alloc (.cells (recC (.int .i64 0) (.int .i64 0) (.slice none 0 0)).toArray 82)) (by kernel_rfl) ?_
  refine wpList_store_rowTo rfl _ _ _ rfl rfl w2.heap.size (recC (.int .i64 2) (.int .i64 2) (.slice none 0 0)).toArray (by kernel_rfl) (by kernel_rfl) 82 (recC (.int .i64 0) (.int .i64 0) (.slice none 0 0)).toArray ?_ (by kernel_rfl) rfl (recC_one _ _ _ _ _) ?_
  · exact (H2.alloc _ _).blk 0 rfl
  have H3 := (H2.alloc (recC (.int .i64 0) (.int .i64 0) (.slice none 0 0)).toArray 82).setRow 0 rfl (recC (.int .i64 2) (.int .i64 2) (.slice none 0 0)).toArray
  generalize (w2.alloc (.cells (recC (.int .i64 0) (.int .i64 0) (.slice none 0 0)).toArray 82)).setRow w2.heap.size (recC (.int .i64 2) (.int .i64 2) (.slice none 0 0)).toArray = w3 at H3 ⊢
  obtain ⟨by', hby⟩ : ∃ by', w2.heap.size = by' := ⟨_, rfl⟩
  rw [hby] at H3 ⊢
  clear H2
  have H4 : St (fun _ => False) w w3 [Blk by' (recC (.int .i64 2) (.int .i64 2) (.slice none 0 0)).toArray 82, Blk bx (recC (.int .i64 1) (.int .i64 1) (.slice (some ⟨bi, 0, none⟩) 2 2)).toArray 82, Blk bi ((itmC i1).toList ++ (itmC i2).toList).toArray 108] := H3
  clear H3
  have hro : ItmsRO w3 (.slice (some ⟨bi, 0, none⟩) 2 2) [i1, i2] := itms_blk (l := [i1, i2]) (H4.blk 2 rfl) fit12
  have kone := idx_one w3 (RC := (recC (.int .i64 1) (.int .i64 1) (.slice (some ⟨bi, 0, none⟩) 2 2)).toArray) rfl rfl hro (by decide)
  rw [e32.1] at kone
  go_upto_region 3 with (fail)
  refine wp_region_lit ?_
  refine Great.wpList_runTo rfl _ rfl (.agg (recC (.int .i64 1) (.int .i64 1) (.slice (some ⟨bi, 0, none⟩) 2 2)).toArray) w3 (run_load_recV (by kernel_rfl) (H4.blk 1 rfl) rfl) ?_
  refine wpList_callAny rfl _ rfl 55 _ (by kernel_rfl) _ kone ?_
  rintro e w4 ⟨rfl, hb4⟩
  refine ⟨_, rfl, ?_⟩
  have H5 := H4.past hb4
  clear H4 kone hro hb4
  refine Great.wpList_runTo rfl _ rfl (.pointer (some ⟨w4.heap.size, 0, none⟩)) (w4.alloc (.cells #[.int .i64 0, .int .i64 0, .int .i64 0, .int .i64 0] 76)) (by kernel_rfl) ?_
  refine wpList_store_rowTo rfl _ _ _ rfl rfl w4.heap.size (strC sX) (by kernel_rfl) (by kernel_rfl) 76 #[.int .i64 0, .int .i64 0, .int .i64 0, .int .i64 0] ?_ (by kernel_rfl) rfl (by kernel_rfl) ?_
  · exact (H5.alloc _ _).blk 0 rfl
  have H6 := (H5.alloc #[.int .i64 0, .int .i64 0, .int .i64 0, .int .i64 0] 76).setRow 0 rfl (strC sX)
  generalize (w4.alloc (.cells #[.int .i64 0, .int .i64 0, .int .i64 0, .int .i64 0] 76)).setRow w4.heap.size (strC sX) = w5 at H6 ⊢
  obtain ⟨bs, hbs⟩ : ∃ bs, w4.heap.size = bs := ⟨_, rfl⟩
  rw [hbs] at H6 ⊢
  have H7 : St (fun _ => False) w w5 [Blk bs (strC sX) 76, Blk by' (recC (.int .i64 2) (.int .i64 2) (.slice none 0 0)).toArray 82, Blk bx (recC (.int .i64 1) (.int .i64 1) (.slice (some ⟨bi, 0, none⟩) 2 2)).toArray 82, Blk bi ((itmC i1).toList ++ (itmC i2).toList).toArray 108] := H6
  clear H6 H5
  go_upto_region 4 with (fail)
  refine wp_region_lit ?_
  refine Great.wpList_runTo rfl _ rfl (.agg (recC (.int .i64 1) (.int .i64 1) (.slice (some ⟨bi, 0, none⟩) 2 2)).toArray) w5 (run_load_recV (by kernel_rfl) (H7.blk 2 rfl) rfl) ?_
  refine Great.wpList_runTo rfl _ rfl (.agg (recC (.int .i64 2) (.int .i64 2) (.slice none 0 0)).toArray) w5 (run_load_recV (by kernel_rfl) (H7.blk 1 rfl) rfl) ?_
  refine Great.wpList_runTo rfl _ rfl (.agg (recC (.int .i64 2) (.int .i64 2) (.slice none 0 0)).toArray) w5 (run_load_recV (by kernel_rfl) (H7.blk 1 rfl) rfl) ?_
  refine Great.wpList_runTo rfl _ rfl (.slice (some ⟨w5.heap.size, 0, none⟩) 3 3) (w5.alloc (.cells ([recC (.int .i64 1) (.int .i64 1) (.slice (some ⟨bi, 0, none⟩) 2 2), recC (.int .i64 2) (.int .i64 2) (.slice none 0 0), recC (.int .i64 2) (.int .i64 2) (.slice none 0 0)].flatten).toArray 82))
    ((run_three_at Try.underlying60 Try.info82 (by omega) (by kernel_rfl) (by kernel_rfl) (by kernel_rfl)).trans (by kernel_rfl)) ?_
  have H8 : St _ _ _ _ := H7.alloc ([recC (.int .i64 1) (.int .i64 1) (.slice (some ⟨bi, 0, none⟩) 2 2), recC (.int .i64 2) (.int .i64 2) (.slice none 0 0), recC (.int .i64 2) (.int .i64 2) (.slice none 0 0)].flatten).toArray 82
  obtain ⟨w6, hw6⟩ : ∃ w6, w5.alloc (.cells ([recC (.int .i64 1) (.int .i64 1) (.slice (some ⟨bi, 0, none⟩) 2 2), recC (.int .i64 2) (.int .i64 2) (.slice none 0 0), recC (.int .i64 2) (.int .i64 2) (.slice none 0 0)].flatten).toArray 82) = w6 := ⟨_, rfl⟩
  rw [hw6] at H8 ⊢
  obtain ⟨bl, hbl⟩ : ∃ bl, w5.heap.size = bl := ⟨_, rfl⟩
  rw [hbl] at H8 ⊢
  have hro : ItmsRO w6 (.slice (some ⟨bi, 0, none⟩) 2 2) [i1, i2] := itms_blk (l := [i1, i2]) (H8.blk 4 rfl) fit12
  have hr : RcsRO w6 (.slice (some ⟨bl, 0, none⟩) 3 3) [rX bi, rY, rY] := rcs_blk (l := [rX bi, rY, rY]) (H8.blk 0 rfl) (goodXY hro)
  have kof := idx_of_good 2 w6 hr (by simp) (by simp) (by omega)
  rw [show ([rX bi, rY, rY].map fun r => oneS r.seq r.items) = [sX, sY, sY] by simp only [List.map_cons, List.map_nil, rX, rY, e32.1, e32.2.1], show [rX bi, rY, rY].length = 3 from rfl, e32.2.2.1] at kof
  refine wpList_callAny rfl _ rfl 29 _ (by kernel_rfl) _ kof ?_
  rintro e w7 ⟨lvv, vals, rows, rfl, hcov, K7⟩
  refine ⟨_, rfl, ?_⟩
  have hlv := hcov.ro K7
  have H9 : St (fun _ => False) w w7 [Blk bs (strC sX) 76, Blk by' (recC (.int .i64 2) (.int .i64 2) (.slice none 0 0)).toArray 82, Blk bx (recC (.int .i64 1) (.int .i64 1) (.slice (some ⟨bi, 0, none⟩) 2 2)).toArray 82, Blk bi ((itmC i1).toList ++ (itmC i2).toList).toArray 108] := (H8.call0 K7).pick [3, 4, 5, 6]
  clear hcov K7 kof hr hro H8 H7
  refine Great.wpList_runTo rfl _ rfl lvv w7 (by kernel_rfl) ?_
  obtain ⟨ao, cap, hlvv, hlv2⟩ := id hlv
  obtain ⟨b, o, rfl, hb, -, hlv3⟩ := hlv2 (by simp)
  obtain ⟨a0, c0, g0, -⟩ := hlv3 0 _ rfl
  obtain ⟨a1, c1, g1, -⟩ := hlv3 1 _ rfl
  obtain ⟨a2, c2, g2, -⟩ := hlv3 2 _ rfl
  obtain rfl : lvv = .slice (some ⟨b, o, none⟩) 3 cap := hlvv
  have g0 : w7.cell? ⟨b, o, none⟩ = some (.slice a0 3 c0) := g0
  have g1 : w7.cell? ⟨b, o + 1, none⟩ = some (.slice a1 2 c1) := g1
  have g2 : w7.cell? ⟨b, o + 2, none⟩ = some (.slice a2 1 c2) := g2
  clear hlv2 hlv3 hw6
  have hks : Calls Try.prog 32 #[.int .i64 2, .slice (some ⟨b, o, none⟩) 3 cap, .int .i64 4, .int .i64 5] w7 _ := idx_seek (width := 2) (a := 4) (b := 5) (by omega) (by simp) (by simp) (by simp) (by simp) hlv
  rw [show [[sX, sY, sY], [sJ, sY], [sJ]].length - 1 = 2 from rfl, e32.2.2.2.1] at hks
  clear hlv
  go_upto_region 8 with (go_at_call 32; go_must (refine hks.mono ?_; rintro e w8 ⟨fv, rfl, K8⟩))
  obtain ⟨gf, cf, rfl⟩ := row_form (K8.row 0 rfl) (show _ = 1 from rfl) (by omega)
  have H10 : St (fun _ => False) w w8 [Row 76 4 (.slice (some ⟨gf, 0, none⟩) 1 cf) 1 (strs [sX]), Blk bs (strC sX) 76, Blk by' (recC (.int .i64 2) (.int .i64 2) (.slice none 0 0)).toArray 82, Blk bx (recC (.int .i64 1) (.int .i64 1) (.slice (some ⟨bi, 0, none⟩) 2 2)).toArray 82, Blk bi ((itmC i1).toList ++ (itmC i2).toList).toArray 108] := H9.call0 K8
  clear K8 H9 hks g0 g1 g2
  have kone := fun w' => idx_one w' (RC := (recC (.int .i64 2) (.int .i64 2) (.slice none 0 0)).toArray) rfl rfl (l := []) ⟨none, 0, rfl, Nat.le_refl _, by simp, fun h => absurd rfl h⟩ (by decide)
  have kj := fun w' => idx_join sX sY w'
  have km1 := fun w' => idx_meets sX 9 10 w'
  have km2 := fun w' => idx_meets sX 10 11 w'
  rw [e32.2.1] at kone
  rw [e32.2.2.2.2.1] at kj
  rw [e32.2.2.2.2.2.1] at km1
  rw [e32.2.2.2.2.2.2.1] at km2
  simp only [strV, sX, sY, sJ] at kone kj km1 km2
  refine wp_script [(0, false), (1, false), (2, false), (3, false), (4, false), (5, false), (6, false), (7, false), (8, false), (9, false), (10, false), (11, false), (12, false), (13, false), (14, false), (15, false), (16, false), (17, false), (18, false), (19, false), (20, false), (21, false), (22, false), (23, false), (24, false), (25, false), (26, false), (27, false), (28, false), (29, false), (30, false), (31, false), (32, false), (33, false), (34, false), (35, false), (36, false), (37, false), (38, true), (39, true), (40, false), (41, false), (42, false), (43, false)] (Fam fun w' => St (fun _ => False) w w' [Row 76 4 (.slice (some ⟨gf, 0, none⟩) 1 cf) 1 (strs [sX]), Blk bs (strC sX) 76, Blk by' (recC (.int .i64 2) (.int .i64 2) (.slice none 0 0)).toArray 82, Blk bx (recC (.int .i64 1) (.int .i64 1) (.slice (some ⟨bi, 0, none⟩) 2 2)).toArray 82, Blk bi ((itmC i1).toList ++ (itmC i2).toList).toArray 108])
    (fun w' => St (fun _ => False) w w' [Row 76 4 (.slice (some ⟨gf, 0, none⟩) 1 cf) 1 (strs [sX]), Blk bs (strC sX) 76, Blk by' (recC (.int .i64 2) (.int .i64 2) (.slice none 0 0)).toArray 82, Blk bx (recC (.int .i64 1) (.int .i64 1) (.slice (some ⟨bi, 0, none⟩) 2 2)).toArray 82, Blk bi ((itmC i1).toList ++ (itmC i2).toList).toArray 108]) (by kernel_rfl) (by rfl) (by kernel_rfl) (by kernel_rfl) H10.drew (Fam.st (fun _ h => h)) ?_
  iterate 38 first
    | (apply script_pass
       · rfl
       · rfl
       intro K hK
       go_simp
       refine hK _ ?_
       clear hK K)
    | (apply script_step
       · rfl
       · rfl
       · intro I hI w1 h1'
         have h1 := hI.2 _ h1'
         have c0 := h1.cell 1 0 rfl rfl
         have c1 := h1.cell 1 1 rfl rfl
         have c2 := h1.cell 1 2 rfl rfl
         have c3 := h1.cell 1 3 rfl rfl
         have d0 := own_cell (h1.row 0 rfl) (j := 0) rfl
         have d1 := own_cell (h1.row 0 rfl) (j := 1) rfl
         have d2 := own_cell (h1.row 0 rfl) (j := 2) rfl
         have d3 := own_cell (h1.row 0 rfl) (j := 3) rfl
         simp only [sX] at c0 c1 c2 c3 d0 d1 d2 d3
         first
           | (refine came_run (run_load_recV ?_ (h1.blk 3 rfl) rfl) h1'; go_simp; done)
           | (refine came_run (run_load_recV ?_ (h1.blk 2 rfl) rfl) h1'; go_simp; done)
           | (go_simp
              first
                | rfl
                | exact ⟨rfl, h1'⟩
                | (go_at_call 55; with_reducible exact Fam.call hI h1' (kone w1))
                | (go_at_call 37; with_reducible exact Fam.call hI h1' (kj w1))
                | (go_at_call 38; first | with_reducible exact Fam.call hI h1' (km1 w1) | with_reducible exact Fam.call hI h1' (km2 w1))
             )
       intro K hK
       go_simp
       refine hK _ ?_
       clear hK K)
  obtain ⟨V1, hV1⟩ := hide_rel (fun v I' => ∃ bz, v = .slice (some ⟨bz, 0, none⟩) 1 1 ∧ I' = fun w' => St (fun _ => False) w w' [Blk bz (recC (.int .i64 1) (.int .i64 1) (.slice (some ⟨bi, 0, none⟩) 2 2)).toArray 82, Row 76 4 (.slice (some ⟨gf, 0, none⟩) 1 cf) 1 (strs [sX]), Blk bs (strC sX) 76, Blk by' (recC (.int .i64 2) (.int .i64 2) (.slice none 0 0)).toArray 82, Blk bx (recC (.int .i64 1) (.int .i64 1) (.slice (some ⟨bi, 0, none⟩) 2 2)).toArray 82, Blk bi ((itmC i1).toList ++ (itmC i2).toList).toArray 108])
  refine script_big V1 rfl rfl ?_ ?_
  · intro w1 h1
    refine cameV_run (v := .slice (some ⟨w1.heap.size, 0, none⟩) 1 1) (w' := w1.alloc (.cells (recC (.int .i64 1) (.int .i64 1) (.slice (some ⟨bi, 0, none⟩) 2 2)).toArray 82)) ((run_one_at Try.underlying60 Try.info82 (by omega) (by kernel_rfl)).trans (by kernel_rfl)) ?_
    exact ⟨_, (hV1.out _ _).2 ⟨_, rfl, rfl⟩, h1.alloc _ _⟩
  · intro v I' hvI
    obtain ⟨bz, rfl, rfl⟩ := (hV1.out _ _).1 hvI
    clear hvI hV1
    refine ⟨Fam fun w' => St (fun _ => False) w w' [Blk bz (recC (.int .i64 1) (.int .i64 1) (.slice (some ⟨bi, 0, none⟩) 2 2)).toArray 82, Row 76 4 (.slice (some ⟨gf, 0, none⟩) 1 cf) 1 (strs [sX]), Blk bs (strC sX) 76, Blk by' (recC (.int .i64 2) (.int .i64 2) (.slice none 0 0)).toArray 82, Blk bx (recC (.int .i64 1) (.int .i64 1) (.slice (some ⟨bi, 0, none⟩) 2 2)).toArray 82, Blk bi ((itmC i1).toList ++ (itmC i2).toList).toArray 108], Fam.mono (fun _ h => h.pick [1, 2, 3, 4, 5]), Fam.st (fun _ h => h), ?_⟩
    intro K hK
    go_simp
    refine hK _ ?_
    clear hK K
    obtain ⟨V2, hV2⟩ := hide_rel (fun v I' => ∃ av cv, v = .slice av 1 cv ∧ I' = fun w' => St (fun _ => False) w w' [Blk bz (recC (.int .i64 1) (.int .i64 1) (.slice (some ⟨bi, 0, none⟩) 2 2)).toArray 82, Row 76 4 (.slice (some ⟨gf, 0, none⟩) 1 cf) 1 (strs [sX]), Blk bs (strC sX) 76, Blk by' (recC (.int .i64 2) (.int .i64 2) (.slice none 0 0)).toArray 82, Blk bx (recC (.int .i64 1) (.int .i64 1) (.slice (some ⟨bi, 0, none⟩) 2 2)).toArray 82, Blk bi ((itmC i1).toList ++ (itmC i2).toList).toArray 108])
    refine script_big V2 rfl rfl ?_ ?_
    · intro w1 h1
      have hro : ItmsRO w1 (.slice (some ⟨bi, 0, none⟩) 2 2) [i1, i2] := itms_blk (l := [i1, i2]) (h1.blk 5 rfl) fit12
      have hr : RcsRO w1 (.slice (some ⟨bz, 0, none⟩) 1 1) [rX bi] := rcs_blk (l := [rX bi]) (h1.blk 0 rfl) (fun x hx => goodXY hro x (by simp at hx; simp [hx]))
      have ki := idx_items 4 9 w1 hr (by simp) (by simp [rX])
      have hl1 : (itemsS [rX bi] 4 9).length = 1 := by
        simp only [itemsS, List.map_cons, List.map_nil, List.flatten_cons, List.flatten_nil, List.append_nil, rX]
        exact e32.2.2.2.2.2.2.2
      go_simp
      refine ki.mono ?_
      rintro e w2 ⟨v', rfl, K2⟩
      obtain ⟨gv, cv, rfl⟩ := row_form (K2.row 0 rfl) hl1 (by omega)
      exact ⟨_, rfl, _, (hV2.out _ _).2 ⟨_, _, rfl, rfl⟩, (h1.call0 K2).pick [1, 2, 3, 4, 5, 6]⟩
    · intro v I' hvI
      obtain ⟨av, cv, rfl, rfl⟩ := (hV2.out _ _).1 hvI
      clear hvI hV2
      refine ⟨_, fun _ h => h, Fam.st (fun _ h => h), ?_⟩
      intro K hK
      go_simp
      refine hK _ ?_
      clear hK K
      iterate 4 first
        | (apply script_pass
           · rfl
           · rfl
           intro K hK
           go_simp
           refine hK _ ?_
           clear hK K)
        | (apply script_step
           · rfl
           · rfl
           · intro I hI w1 h1'
             have h1 := hI.2 _ h1'
             first
               | (go_simp
                  first
                    | rfl
                    | exact ⟨rfl, h1'⟩
                 )
           intro K hK
           go_simp
           refine hK _ ?_
           clear hK K)
      refine script_nil ?_
      intro w9 H11
      go_wp2
      go_ret
      exact ⟨rfl, H11.below (by omega) (fun _ h => h.elim)⟩
end

end Go.Proofs.Ytbikjhmdpgoofaa
