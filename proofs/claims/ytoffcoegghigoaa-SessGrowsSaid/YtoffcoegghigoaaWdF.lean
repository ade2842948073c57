/- The law's first, of windows. -/
import Derived.Test.YtoffcoegghigoaaWdQ
namespace Go.Proofs.Ytoffcoegghigoaa
open Go.RowKit

theorem wds_blk {w : World} {b : Nat} {t : TypeId} {l : List Wd} (hb : w.heap[b]? = some (.cells (wds l).toArray t (0, 0))) (hf : ∀ x ∈ l, x.fits) : WdsRO w (.slice (some ⟨b, 0, none⟩) l.length l.length) l := by
  refine ⟨_, _, rfl, Nat.le_refl _, hf, fun _ => ⟨b, 0, rfl, blk_lt hb, fun i x hi j z hj => ?_⟩⟩
  show w.cell? ⟨b, 0 + i * 3 + j, none⟩ = some z
  rw [Nat.zero_add]
  refine cell_blk' hb ?_
  rw [List.getElem?_toArray]
  exact wds_get hi hj
def xwA : Wd := ⟨[97], 5, 10⟩
def xwB : Wd := ⟨[97], 10, 12⟩
def xwC : Wd := ⟨[97], 5, 12⟩
theorem xw_fit : ∀ x ∈ [xwA, xwB], x.fits := by
  intro x hx
  simp only [List.mem_cons, List.not_mem_nil, or_false] at hx
  rcases hx with rfl | rfl <;> simp [Wd.fits, xwA, xwB]
theorem stl_A : stl [xwA] = true := stl_true.2 (stl_pair.2 ⟨by intro x hx; obtain rfl := List.mem_singleton.1 hx; decide, List.pairwise_singleton _ _⟩)
theorem stl_AB : stl [xwA, xwB] = false := stl_false.2 (fun h => by
  have := ((stl_iff.1 h).2 0 1 xwA xwB (by decide) rfl rfl).2
  revert this
  decide)
theorem take_AB : becOf [xwA] xwB = xwC ∧ tookW [xwA] xwB = [xwC] ∧ (takeF [xwA] xwB).gave = [0] ∧ (allM [xwB, xwA]).length = 1 ∧ xwA.joins xwB = true := by decide
theorem set1_at {w : World} {g : Nat} (h : w.heap[g]? = some (.cells #[.string ⟨#[97]⟩, .int .i64 5, .int .i64 10] 41 (0, 0))) : Calls Try.prog 27 #[.slice (some ⟨g, 0, none⟩) 1 1] w fun e w' => e = .returned (.bool true) ∧ Below w.heap.size w w' := by
  have k := sess_settled w (wds_blk (l := [xwA]) h (fun x hx => xw_fit x (by simp at hx; simp [hx]))) (by decide)
  rw [stl_A] at k
  exact k
theorem set2_at {w : World} {g : Nat} (h : w.heap[g]? = some (.cells #[.string ⟨#[97]⟩, .int .i64 5, .int .i64 10, .string ⟨#[97]⟩, .int .i64 10, .int .i64 12] 41 (0, 0))) : Calls Try.prog 27 #[.slice (some ⟨g, 0, none⟩) 2 2] w fun e w' => e = .returned (.bool false) ∧ Below w.heap.size w w' := by
  have k := sess_settled w (wds_blk (l := [xwA, xwB]) h xw_fit) (by decide)
  rw [stl_AB] at k
  exact k
theorem take1_at {w : World} {g : Nat} (h : w.heap[g]? = some (.cells #[.string ⟨#[97]⟩, .int .i64 5, .int .i64 10] 41 (0, 0))) : Calls Try.prog 26 #[.slice (some ⟨g, 0, none⟩) 1 1, .agg #[.string ⟨#[97]⟩, .int .i64 10, .int .i64 12]] w fun e w' => ∃ gv cv gg cg, e = .returned (.tuple #[.slice (some ⟨gv, 0, none⟩) 1 cv, .agg #[.string ⟨#[97]⟩, .int .i64 5, .int .i64 12], .slice (some ⟨gg, 0, none⟩) 1 cg]) ∧ St (fun _ => False) w w' [Row 41 3 (.slice (some ⟨gv, 0, none⟩) 1 cv) 1 (wds [xwC]), Row 3 1 (.slice (some ⟨gg, 0, none⟩) 1 cg) 1 (intCells [0])] := by
  have k := sess_take (x := xwB) w (wds_blk (l := [xwA]) h (fun x hx => xw_fit x (by simp at hx; simp [hx]))) (by decide) (xw_fit _ (by simp)) stl_A (by decide)
  rw [take_AB.1, take_AB.2.1, take_AB.2.2.1] at k
  refine k.mono ?_
  rintro e w' ⟨v', vg, rfl, H⟩
  obtain ⟨gv, cv, rfl⟩ := row_form (N := 1) (H.row 0 rfl) rfl (by decide)
  obtain ⟨gg, cg, rfl⟩ := row_form (N := 1) (H.row 1 rfl) rfl (by decide)
  exact ⟨gv, cv, gg, cg, rfl, H⟩
theorem all2_at {w : World} {g : Nat} (h : w.heap[g]? = some (.cells #[.string ⟨#[97]⟩, .int .i64 10, .int .i64 12, .string ⟨#[97]⟩, .int .i64 5, .int .i64 10] 41 (0, 0))) : Calls Try.prog 31 #[.slice (some ⟨g, 0, none⟩) 2 2] w fun e w' => ∃ g4 c4, e = .returned (.slice (some ⟨g4, 0, none⟩) 1 c4) ∧ St (fun _ => False) w w' [Row 41 3 (.slice (some ⟨g4, 0, none⟩) 1 c4) 1 (wds (allM [xwB, xwA]))] := by
  have k := sess_all w (wds_blk (l := [xwB, xwA]) h (fun x hx => xw_fit x (by simp at hx ⊢; exact hx.symm))) (by decide)
  rw [take_AB.2.2.2.1] at k
  refine k.mono ?_
  rintro e w' ⟨v', rfl, H⟩
  obtain ⟨g4, c4, rfl⟩ := row_form (N := 1) (H.row 0 rfl) rfl (by decide)
  exact ⟨g4, c4, rfl, H⟩

set_option maxHeartbeats 8000000 in
set_option maxRecDepth 100000 in
theorem first09 (w : World) : Calls Try.prog 21 #[] w fun e w' => e = .returned (.bool true) ∧ Below w.heap.size w w' := by
  have kj := fun w' => wd_joins xwA xwB (xw_fit _ (by simp)) (xw_fit _ (by simp)) w'
  rw [take_AB.2.2.2.2] at kj
  have kj : ∀ w', Calls Try.prog 23 #[.agg #[.string ⟨#[97]⟩, .int .i64 5, .int .i64 10], .agg #[.string ⟨#[97]⟩, .int .i64 10, .int .i64 12]] w' fun e w2 => e = .returned (.bool true) ∧ Below w'.heap.size w' w2 := kj
  go_enter Try.func21, Try.ntmps21
  go_upto_region 2 with (fail)
  have HA : St (fun _ => False) w _ [_] := (St.nil (fun _ => False) w).allocAt rfl #[.string ⟨#[97]⟩, .int .i64 5, .int .i64 10] 41
  have HB : St (fun _ => False) w _ [_, _] := HA.allocAt (B := w.heap.size + 1) (Array.size_push _) #[.string ⟨#[97]⟩, .int .i64 10, .int .i64 12] 41
  obtain ⟨b, hb⟩ : ∃ b, w.heap.size = b := ⟨_, rfl⟩
  obtain ⟨b2, hb2⟩ : ∃ b2, b + 1 = b2 := ⟨_, rfl⟩
  obtain ⟨w2, hw2⟩ : ∃ w2, (w.alloc (.cells #[.string ⟨#[97]⟩, .int .i64 5, .int .i64 10] 41)).alloc (.cells #[.string ⟨#[97]⟩, .int .i64 10, .int .i64 12] 41) = w2 := ⟨_, rfl⟩
  rw [hw2, hb, hb2] at HB
  rw [hw2]
  simp only [hb, hb2]
  have HB : St (fun _ => False) w w2 [Blk b2 #[.string ⟨#[97]⟩, .int .i64 10, .int .i64 12] 41, Blk b #[.string ⟨#[97]⟩, .int .i64 5, .int .i64 10] 41] := HB
  clear hb hb2 hw2 HA
  have a0 := HB.cell 1 0 rfl rfl
  have a1 := HB.cell 1 1 rfl rfl
  have a2 := HB.cell 1 2 rfl rfl
  have b0 := HB.cell 0 0 rfl rfl
  have b1 := HB.cell 0 1 rfl rfl
  have b3 := HB.cell 0 2 rfl rfl
  have HC : St (fun _ => False) w _ [_, _, _] := HB.allocAt rfl #[.string ⟨#[97]⟩, .int .i64 5, .int .i64 10] 41
  have kt := take1_at (HC.blk 0 rfl)
  have HC2 := HC.tail
  have e0 := HC.cell 1 0 rfl rfl
  have e1 := HC.cell 1 1 rfl rfl
  have e2 := HC.cell 1 2 rfl rfl
  go_upto_region 3 with (go_at_call 26; go_must (refine kt.mono ?_; rintro e w3 ⟨gv, cv, gg, cg, rfl, H3⟩; have H4 : St (fun _ => False) w w3 [_, _, _, _] := HC2.call0 H3))
  have H5 : St (fun _ => False) w _ [_, _, _, _, _] := H4.allocAt rfl #[.string ⟨#[97]⟩, .int .i64 5, .int .i64 12] 41
  obtain ⟨bw, hbw⟩ : ∃ b, w3.heap.size = b := ⟨_, rfl⟩
  obtain ⟨w4, hw4⟩ : ∃ w4, w3.alloc (.cells #[.string ⟨#[97]⟩, .int .i64 5, .int .i64 12] 41) = w4 := ⟨_, rfl⟩
  rw [hw4, hbw] at H5
  rw [hw4]
  try simp only [hbw]
  have H5 : St (fun _ => False) w w4 [Blk bw #[.string ⟨#[97]⟩, .int .i64 5, .int .i64 12] 41, Row 41 3 (.slice (some ⟨gv, 0, none⟩) 1 cv) 1 (wds [xwC]), Row 3 1 (.slice (some ⟨gg, 0, none⟩) 1 cg) 1 (intCells [0]), Blk b2 #[.string ⟨#[97]⟩, .int .i64 10, .int .i64 12] 41, Blk b #[.string ⟨#[97]⟩, .int .i64 5, .int .i64 10] 41] := H5
  clear hbw hw4 H4 H3 HC2 HC HB kt a0 a1 a2 b0 b1 b3 e0 e1 e2
  refine wp_script [(0, false), (1, false), (2, false), (3, false), (4, false), (5, true), (6, false), (7, false), (8, false), (9, false), (10, false), (11, true), (12, false), (13, false), (14, false), (15, false), (16, false), (17, false), (18, false), (19, false), (20, false), (21, false), (22, false), (23, false), (24, false), (25, false), (26, false), (27, false), (28, false), (29, false), (30, false), (31, false), (32, false), (33, false), (34, false), (35, false), (36, false), (37, false), (38, false), (39, false), (40, false), (41, false), (42, false), (43, false), (44, false), (45, false), (46, false), (47, false), (48, false), (49, false), (50, false), (51, true), (52, true), (53, false), (54, false), (55, false), (56, false)] (Fam fun w' => St (fun _ => False) w w' [Blk bw #[.string ⟨#[97]⟩, .int .i64 5, .int .i64 12] 41, Row 41 3 (.slice (some ⟨gv, 0, none⟩) 1 cv) 1 (wds [xwC]), Row 3 1 (.slice (some ⟨gg, 0, none⟩) 1 cg) 1 (intCells [0]), Blk b2 #[.string ⟨#[97]⟩, .int .i64 10, .int .i64 12] 41, Blk b #[.string ⟨#[97]⟩, .int .i64 5, .int .i64 10] 41]) (fun w' => St (fun _ => False) w w' [Blk bw #[.string ⟨#[97]⟩, .int .i64 5, .int .i64 12] 41, Row 41 3 (.slice (some ⟨gv, 0, none⟩) 1 cv) 1 (wds [xwC]), Row 3 1 (.slice (some ⟨gg, 0, none⟩) 1 cg) 1 (intCells [0]), Blk b2 #[.string ⟨#[97]⟩, .int .i64 10, .int .i64 12] 41, Blk b #[.string ⟨#[97]⟩, .int .i64 5, .int .i64 10] 41]) (by kernel_rfl) (by rfl) (by kernel_rfl) (by kernel_rfl) H5.drew (Fam.st (fun _ h => h)) ?_
  iterate 5 first
    | (apply script_pass
       · rfl
       · rfl
       intro K hK
       go_simp
       refine hK _ ?_
       clear hK K)
    | (apply script_step
       · rfl
       · rfl
       · intro I hI w1 h1'
         have h1 := hI.2 _ h1'
         have a0 := h1.cell 4 0 rfl rfl
         have a1 := h1.cell 4 1 rfl rfl
         have a2 := h1.cell 4 2 rfl rfl
         have b0 := h1.cell 3 0 rfl rfl
         have b1 := h1.cell 3 1 rfl rfl
         have b3 := h1.cell 3 2 rfl rfl
         first
           | (go_simp
              first
                | rfl
                | exact ⟨rfl, h1'⟩
                | (go_at_call 23; with_reducible exact Fam.call hI h1' (kj w1))
             )
       intro K hK
       go_simp
       refine hK _ ?_
       clear hK K)
  obtain ⟨V1, hV1⟩ := hide_rel (fun v I' => ∃ g1, v = .slice (some ⟨g1, 0, none⟩) 1 1 ∧ I' = fun w' => St (fun _ => False) w w' [Blk g1 #[.string ⟨#[97]⟩, .int .i64 5, .int .i64 10] 41, Blk bw #[.string ⟨#[97]⟩, .int .i64 5, .int .i64 12] 41, Row 41 3 (.slice (some ⟨gv, 0, none⟩) 1 cv) 1 (wds [xwC]), Row 3 1 (.slice (some ⟨gg, 0, none⟩) 1 cg) 1 (intCells [0]), Blk b2 #[.string ⟨#[97]⟩, .int .i64 10, .int .i64 12] 41, Blk b #[.string ⟨#[97]⟩, .int .i64 5, .int .i64 10] 41])
  refine script_big V1 rfl rfl ?_ ?_
  · intro w3 h3
    go_simp
    exact ⟨_, (hV1.out _ _).2 ⟨_, rfl, rfl⟩, h3.alloc #[.string ⟨#[97]⟩, .int .i64 5, .int .i64 10] 41⟩
  intro v I' hvI
  obtain ⟨g1, rfl, rfl⟩ := (hV1.out _ _).1 hvI
  clear hvI hV1
  refine ⟨Fam fun w' => St (fun _ => False) w w' [Blk g1 #[.string ⟨#[97]⟩, .int .i64 5, .int .i64 10] 41, Blk bw #[.string ⟨#[97]⟩, .int .i64 5, .int .i64 12] 41, Row 41 3 (.slice (some ⟨gv, 0, none⟩) 1 cv) 1 (wds [xwC]), Row 3 1 (.slice (some ⟨gg, 0, none⟩) 1 cg) 1 (intCells [0]), Blk b2 #[.string ⟨#[97]⟩, .int .i64 10, .int .i64 12] 41, Blk b #[.string ⟨#[97]⟩, .int .i64 5, .int .i64 10] 41], Fam.mono (fun _ h => h.tail), Fam.st (fun _ h => h), ?_⟩
  intro K hK
  go_simp
  refine hK _ ?_
  clear hK K
  iterate 5 first
    | (apply script_pass
       · rfl
       · rfl
       intro K hK
       go_simp
       refine hK _ ?_
       clear hK K)
    | (apply script_step
       · rfl
       · rfl
       · intro I hI w1 h1'
         have h1 := hI.2 _ h1'
         have a0 := h1.cell 5 0 rfl rfl
         have a1 := h1.cell 5 1 rfl rfl
         have a2 := h1.cell 5 2 rfl rfl
         have b0 := h1.cell 4 0 rfl rfl
         have b1 := h1.cell 4 1 rfl rfl
         have b3 := h1.cell 4 2 rfl rfl
         have n1 := set1_at (h1.blk 0 rfl)
         first
           | (go_simp
              first
                | rfl
                | exact ⟨rfl, h1'⟩
                | (go_at_call 27; with_reducible exact Fam.call hI h1' n1)
             )
       intro K hK
       go_simp
       refine hK _ ?_
       clear hK K)
  obtain ⟨V2, hV2⟩ := hide_rel (fun v I' => ∃ g2, v = .slice (some ⟨g2, 0, none⟩) 2 2 ∧ I' = fun w' => St (fun _ => False) w w' [Blk g2 #[.string ⟨#[97]⟩, .int .i64 5, .int .i64 10, .string ⟨#[97]⟩, .int .i64 10, .int .i64 12] 41, Blk g1 #[.string ⟨#[97]⟩, .int .i64 5, .int .i64 10] 41, Blk bw #[.string ⟨#[97]⟩, .int .i64 5, .int .i64 12] 41, Row 41 3 (.slice (some ⟨gv, 0, none⟩) 1 cv) 1 (wds [xwC]), Row 3 1 (.slice (some ⟨gg, 0, none⟩) 1 cg) 1 (intCells [0]), Blk b2 #[.string ⟨#[97]⟩, .int .i64 10, .int .i64 12] 41, Blk b #[.string ⟨#[97]⟩, .int .i64 5, .int .i64 10] 41])
  refine script_big V2 rfl rfl ?_ ?_
  · intro w3 h3
    go_simp
    exact ⟨_, (hV2.out _ _).2 ⟨_, rfl, rfl⟩, h3.alloc #[.string ⟨#[97]⟩, .int .i64 5, .int .i64 10, .string ⟨#[97]⟩, .int .i64 10, .int .i64 12] 41⟩
  intro v I' hvI
  obtain ⟨g2, rfl, rfl⟩ := (hV2.out _ _).1 hvI
  clear hvI hV2
  refine ⟨Fam fun w' => St (fun _ => False) w w' [Blk g2 #[.string ⟨#[97]⟩, .int .i64 5, .int .i64 10, .string ⟨#[97]⟩, .int .i64 10, .int .i64 12] 41, Blk g1 #[.string ⟨#[97]⟩, .int .i64 5, .int .i64 10] 41, Blk bw #[.string ⟨#[97]⟩, .int .i64 5, .int .i64 12] 41, Row 41 3 (.slice (some ⟨gv, 0, none⟩) 1 cv) 1 (wds [xwC]), Row 3 1 (.slice (some ⟨gg, 0, none⟩) 1 cg) 1 (intCells [0]), Blk b2 #[.string ⟨#[97]⟩, .int .i64 10, .int .i64 12] 41, Blk b #[.string ⟨#[97]⟩, .int .i64 5, .int .i64 10] 41], Fam.mono (fun _ h => h.tail), Fam.st (fun _ h => h), ?_⟩
  intro K hK
  go_simp
  refine hK _ ?_
  clear hK K
  iterate 39 first
    | (apply script_pass
       · rfl
       · rfl
       intro K hK
       go_simp
       refine hK _ ?_
       clear hK K)
    | (apply script_step
       · rfl
       · rfl
       · intro I hI w1 h1'
         have h1 := hI.2 _ h1'
         have a0 := h1.cell 6 0 rfl rfl
         have a1 := h1.cell 6 1 rfl rfl
         have a2 := h1.cell 6 2 rfl rfl
         have b0 := h1.cell 5 0 rfl rfl
         have b1 := h1.cell 5 1 rfl rfl
         have b3 := h1.cell 5 2 rfl rfl
         have c0 := h1.cell 2 0 rfl rfl
         have c1 := h1.cell 2 1 rfl rfl
         have c2 := h1.cell 2 2 rfl rfl
         obtain ⟨r0, r1, r2⟩ := row_wds (j := 0) (x := xwC) (h1.row 3 rfl) rfl
         simp only [Nat.zero_mul, Nat.zero_add, xwC, textV] at r0 r1 r2
         have g0 := own_cell (h1.row 4 rfl) (j := 0) rfl
         have n1 := set2_at (h1.blk 0 rfl)
         first
           | (go_simp
              first
                | rfl
                | exact ⟨rfl, h1'⟩
                | (go_at_call 27; with_reducible exact Fam.call hI h1' n1)
             )
       intro K hK
       go_simp
       refine hK _ ?_
       clear hK K)
  obtain ⟨V3, hV3⟩ := hide_rel (fun v I' => ∃ g3, v = .slice (some ⟨g3, 0, none⟩) 2 2 ∧ I' = fun w' => St (fun _ => False) w w' [Blk g3 #[.string ⟨#[97]⟩, .int .i64 10, .int .i64 12, .string ⟨#[97]⟩, .int .i64 5, .int .i64 10] 41, Blk g2 #[.string ⟨#[97]⟩, .int .i64 5, .int .i64 10, .string ⟨#[97]⟩, .int .i64 10, .int .i64 12] 41, Blk g1 #[.string ⟨#[97]⟩, .int .i64 5, .int .i64 10] 41, Blk bw #[.string ⟨#[97]⟩, .int .i64 5, .int .i64 12] 41, Row 41 3 (.slice (some ⟨gv, 0, none⟩) 1 cv) 1 (wds [xwC]), Row 3 1 (.slice (some ⟨gg, 0, none⟩) 1 cg) 1 (intCells [0]), Blk b2 #[.string ⟨#[97]⟩, .int .i64 10, .int .i64 12] 41, Blk b #[.string ⟨#[97]⟩, .int .i64 5, .int .i64 10] 41])
  refine script_big V3 rfl rfl ?_ ?_
  · intro w3 h3
    go_simp
    exact ⟨_, (hV3.out _ _).2 ⟨_, rfl, rfl⟩, h3.alloc #[.string ⟨#[97]⟩, .int .i64 10, .int .i64 12, .string ⟨#[97]⟩, .int .i64 5, .int .i64 10] 41⟩
  intro v I' hvI
  obtain ⟨g3, rfl, rfl⟩ := (hV3.out _ _).1 hvI
  clear hvI hV3
  refine ⟨Fam fun w' => St (fun _ => False) w w' [Blk g3 #[.string ⟨#[97]⟩, .int .i64 10, .int .i64 12, .string ⟨#[97]⟩, .int .i64 5, .int .i64 10] 41, Blk g2 #[.string ⟨#[97]⟩, .int .i64 5, .int .i64 10, .string ⟨#[97]⟩, .int .i64 10, .int .i64 12] 41, Blk g1 #[.string ⟨#[97]⟩, .int .i64 5, .int .i64 10] 41, Blk bw #[.string ⟨#[97]⟩, .int .i64 5, .int .i64 12] 41, Row 41 3 (.slice (some ⟨gv, 0, none⟩) 1 cv) 1 (wds [xwC]), Row 3 1 (.slice (some ⟨gg, 0, none⟩) 1 cg) 1 (intCells [0]), Blk b2 #[.string ⟨#[97]⟩, .int .i64 10, .int .i64 12] 41, Blk b #[.string ⟨#[97]⟩, .int .i64 5, .int .i64 10] 41], Fam.mono (fun _ h => h.tail), Fam.st (fun _ h => h), ?_⟩
  intro K hK
  go_simp
  refine hK _ ?_
  clear hK K
  obtain ⟨V4, hV4⟩ := hide_rel (fun v I' => ∃ g4 c4, v = .slice (some ⟨g4, 0, none⟩) 1 c4 ∧ I' = fun w' => St (fun _ => False) w w' [Row 41 3 (.slice (some ⟨g4, 0, none⟩) 1 c4) 1 (wds (allM [xwB, xwA])), Blk g3 #[.string ⟨#[97]⟩, .int .i64 10, .int .i64 12, .string ⟨#[97]⟩, .int .i64 5, .int .i64 10] 41, Blk g2 #[.string ⟨#[97]⟩, .int .i64 5, .int .i64 10, .string ⟨#[97]⟩, .int .i64 10, .int .i64 12] 41, Blk g1 #[.string ⟨#[97]⟩, .int .i64 5, .int .i64 10] 41, Blk bw #[.string ⟨#[97]⟩, .int .i64 5, .int .i64 12] 41, Row 41 3 (.slice (some ⟨gv, 0, none⟩) 1 cv) 1 (wds [xwC]), Row 3 1 (.slice (some ⟨gg, 0, none⟩) 1 cg) 1 (intCells [0]), Blk b2 #[.string ⟨#[97]⟩, .int .i64 10, .int .i64 12] 41, Blk b #[.string ⟨#[97]⟩, .int .i64 5, .int .i64 10] 41])
  refine script_big V4 rfl rfl ?_ ?_
  · intro w3 h3
    go_simp
    refine (all2_at (h3.blk 0 rfl)).mono ?_
    rintro e w4 ⟨g4, c4, rfl, H4⟩
    exact ⟨_, rfl, _, (hV4.out _ _).2 ⟨g4, c4, rfl, rfl⟩, h3.call0 (l1' := [_]) H4⟩
  intro v I' hvI
  obtain ⟨g4, c4, rfl, rfl⟩ := (hV4.out _ _).1 hvI
  clear hvI hV4
  refine ⟨Fam fun w' => St (fun _ => False) w w' [Row 41 3 (.slice (some ⟨g4, 0, none⟩) 1 c4) 1 (wds (allM [xwB, xwA])), Blk g3 #[.string ⟨#[97]⟩, .int .i64 10, .int .i64 12, .string ⟨#[97]⟩, .int .i64 5, .int .i64 10] 41, Blk g2 #[.string ⟨#[97]⟩, .int .i64 5, .int .i64 10, .string ⟨#[97]⟩, .int .i64 10, .int .i64 12] 41, Blk g1 #[.string ⟨#[97]⟩, .int .i64 5, .int .i64 10] 41, Blk bw #[.string ⟨#[97]⟩, .int .i64 5, .int .i64 12] 41, Row 41 3 (.slice (some ⟨gv, 0, none⟩) 1 cv) 1 (wds [xwC]), Row 3 1 (.slice (some ⟨gg, 0, none⟩) 1 cg) 1 (intCells [0]), Blk b2 #[.string ⟨#[97]⟩, .int .i64 10, .int .i64 12] 41, Blk b #[.string ⟨#[97]⟩, .int .i64 5, .int .i64 10] 41], Fam.mono (fun _ h => h.tail), Fam.st (fun _ h => h), ?_⟩
  intro K hK
  go_simp
  refine hK _ ?_
  clear hK K
  iterate 4 first
    | (apply script_pass
       · rfl
       · rfl
       intro K hK
       go_simp
       refine hK _ ?_
       clear hK K)
    | (apply script_step
       · rfl
       · rfl
       · intro I hI w1 h1'
         have h1 := hI.2 _ h1'
         first
           | (go_simp
              first
                | rfl
                | exact ⟨rfl, h1'⟩
             )
       intro K hK
       go_simp
       refine hK _ ?_
       clear hK K)
  refine script_nil ?_
  intro w13 H13
  go_wp2
  go_ret
  exact ⟨rfl, H13.below (Nat.le_refl _) (fun _ h => h.elim)⟩
end Go.Proofs.Ytoffcoegghigoaa
