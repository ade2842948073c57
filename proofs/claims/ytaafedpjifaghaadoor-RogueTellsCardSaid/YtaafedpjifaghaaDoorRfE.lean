/- The walk of the document's Parse of an out (layer 11) at a text that tells a window, a round, and one word more. Condition: the word's length. -/
import Derived.Test.YtaafedpjifaghaaDoorRfD
set_option linter.unusedVariables false
set_option linter.unusedSimpArgs false
namespace Go.Proofs.YtaafedpjifaghaaDoor
open Go.RowKit

def oneNum (n : Int) : Bool → Value → SP
  | true, v => Row 3 1 v 1 [.int .i64 n]
  | false, v => SP.pure (v = .slice none 0 0)
def outOf : Bool → Value → List Value
  | true, v => outN v
  | false, _ => outZ
theorem text_five (a b c d e : UInt8) (r : List UInt8) : (⟨(a :: b :: c :: d :: e :: r).toArray⟩ : ByteArray).extract 0 5 = ⟨#[a, b, c, d, e]⟩ := by
  have := txs_part (a :: b :: c :: d :: e :: r) 0 5
  simpa using this
set_option maxHeartbeats 8000000 in
set_option maxRecDepth 100000 in
theorem doc_oparse {s : List UInt8} (h32 : (32 : UInt8) ∉ s) (hl : s.length ≤ 1000000) (w : World) :
    Calls Tryd.prog 61 #[.string ⟨(preT ++ s).toArray⟩] w fun e w' => ∃ v, e = .returned (.tuple #[.agg (outOf (num11 s).2 v).toArray, .bool (num11 s).2]) ∧ St (fun _ => False) w w' [oneNum (num11 s).1 (num11 s).2 v] := by
  have hsp := pre_split h32
  have ks := fun w' => ref_split (s := preT ++ s) (a := [32]) (by simp) (by simp [preT]; omega) (by simp) w'
  rw [hsp] at ks
  have htl : (preT ++ s).length = s.length + 10 := by simp [preT]
  have h5 : (⟨(preT ++ s).toArray⟩ : ByteArray).extract 0 5 = ⟨#[97, 32, 49, 46, 46]⟩ := by
    rw [show preT ++ s = 97 :: 32 :: 49 :: 46 :: 46 :: ([50, 32, 35, 49, 32] ++ s) from rfl]
    exact text_five 97 32 49 46 46 ([50, 32, 35, 49, 32] ++ s)
  have hsz := txs_size (preT ++ s)
  have kw := fun w' => doc_wparse (s := [97, 32, 49, 46, 46, 50]) (by simp) w'
  rw [pre_window] at kw
  simp only [Option.getD_some, Option.isSome_some] at kw
  unfold wdCells at kw
  have k1 := fun w' => ref_num11 (s := [49]) (by simp) w'
  have e1 : num11 [49] = (1, true) := by decide
  rw [e1] at k1
  have kn := fun w' => ref_num11 (s := s) (by omega) w'
  obtain ⟨⟨n, ok⟩, hn⟩ : ∃ x, num11 s = x := ⟨_, rfl⟩
  rw [hn] at kn ⊢
  simp only at kn ⊢ k1
  obtain ⟨t, ht⟩ : ∃ t, preT ++ s = t := ⟨_, rfl⟩
  rw [ht] at ks htl h5 hsz ⊢
  unfold textV at ks kn k1
  clear hsp ht hn e1
  obtain ⟨rb, hrb⟩ : ∃ g, w.heap.size = g := ⟨_, rfl⟩
  have H0 : St (fun _ => False) w (w.alloc (.cells outZ.toArray 112)) [Blk rb outZ.toArray 112] := (St.nil _ w).allocAt hrb _ _
  have z5 : decide ((5 : Int) < (t.length : Int)) = true := by simp; omega
  have l5 : 5 ≤ t.length := by omega
  go_enter Tryd.func61, Tryd.ntmps61
  go_upto_region 1 with (fail)
  obtain ⟨w1, hw1⟩ : ∃ w1, w.alloc (.cells #[.bool false, .int .i64 0, .string ⟨#[]⟩, .int .i64 0, .int .i64 0, .string ⟨#[]⟩, .int .i64 0, .int .i64 0, .int .i64 0, .slice none 0 0] 112) = w1 := ⟨_, rfl⟩
  have hw1' : w.alloc (.cells outZ.toArray 112) = w1 := hw1
  rw [hw1'] at H0
  rw [hw1]
  try rw [hrb]
  clear hw1 hw1' hrb
  go_upto_region 6 with (go_at_call 42; go_must (refine (ks _).mono ?_; rintro e w2 ⟨v1, rfl, H1⟩; have H2 : St (fun _ => False) w w2 [Row 9 1 v1 4 (texts [[97], [49, 46, 46, 50], [35, 49], s]), Blk rb outZ.toArray 112] := H0.call0 H1; obtain ⟨gp, cp, rfl⟩ := row_form (H2.row 0 rfl) rfl (by omega : 0 < 4)))
  clear H0 H1 ks
  have d0 : w2.cell? ⟨gp, 0, none⟩ = some (.string ⟨#[97]⟩) := H2.rowCell 0 0 rfl rfl
  have d1 : w2.cell? ⟨gp, 1, none⟩ = some (.string ⟨#[49, 46, 46, 50]⟩) := H2.rowCell 0 1 rfl rfl
  have d2 : w2.cell? ⟨gp, 2, none⟩ = some (.string ⟨#[35, 49]⟩) := H2.rowCell 0 2 rfl rfl
  go_upto_region 8 with (fail)
  clear d0 d1 d2
  have hcat1 : (⟨#[97]⟩ : ByteArray) ++ ⟨#[32]⟩ = ⟨#[97, 32]⟩ := rfl
  have hcat2 : (⟨#[97, 32]⟩ : ByteArray) ++ ⟨#[49, 46, 46, 50]⟩ = ⟨#[97, 32, 49, 46, 46, 50]⟩ := rfl
  refine wp_script [(0, false), (1, false), (2, false), (3, false), (4, false), (5, false), (6, false), (7, false), (8, false), (9, false), (10, false), (11, false), (12, true), (13, true), (14, false)] (Fam fun w' => St (fun _ => False) w w' [Row 9 1 (.slice (some ⟨gp, 0, none⟩) 4 cp) 4 (texts [[97], [49, 46, 46, 50], [35, 49], s]), Blk rb outZ.toArray 112]) (fun w' => St (fun _ => False) w w' [Row 9 1 (.slice (some ⟨gp, 0, none⟩) 4 cp) 4 (texts [[97], [49, 46, 46, 50], [35, 49], s]), Blk rb outZ.toArray 112]) (by kernel_rfl) (by rfl) (by kernel_rfl) (by kernel_rfl) H2.drew (Fam.st (fun _ h => h)) ?_
  iterate 12 first
    | (apply script_pass
       · rfl
       · rfl
       intro K hK
       go_simp
       refine hK _ ?_
       clear hK K)
    | (apply script_step
       · rfl
       · rfl
       · intro I hI w1 h1'
         have h1 := hI.2 _ h1'
         have d0 : w1.cell? ⟨gp, 0, none⟩ = some (.string ⟨#[97]⟩) := h1.rowCell 0 0 rfl rfl
         have d1 : w1.cell? ⟨gp, 1, none⟩ = some (.string ⟨#[49, 46, 46, 50]⟩) := h1.rowCell 0 1 rfl rfl
         have nw := kw w1
         first
           | (go_simp
              first
                | rfl
                | exact ⟨rfl, h1'⟩
                | (go_at_call 74; with_reducible exact Fam.call hI h1' nw)
             )
       intro K hK
       go_simp
       refine hK _ ?_
       clear hK K)
  refine script_alone rfl rfl ?_
  intro V hV w1 h1
  go_simp
  obtain ⟨wb, hwb⟩ : ∃ g, w1.heap.size = g := ⟨_, rfl⟩
  have H3 : St (fun _ => False) w _ [Blk wb #[.string ⟨#[]⟩, .int .i64 0, .int .i64 0] 110, Row 9 1 (.slice (some ⟨gp, 0, none⟩) 4 cp) 4 (texts [[97], [49, 46, 46, 50], [35, 49], s]), Blk rb outZ.toArray 112] := h1.allocAt hwb #[.string ⟨#[]⟩, .int .i64 0, .int .i64 0] 110
  simp only [hwb]
  refine ⟨fun w' => St (fun _ => False) w w' [Blk wb #[.string ⟨#[]⟩, .int .i64 0, .int .i64 0] 110, Row 9 1 (.slice (some ⟨gp, 0, none⟩) 4 cp) 4 (texts [[97], [49, 46, 46, 50], [35, 49], s]), Blk rb outZ.toArray 112], hV _ _ _ (fun _ h => h) (Fam.st (fun _ h => h.pick [1, 2])) ?_, H3⟩
  intro K hK
  go_simp
  refine hK _ ?_
  clear hK K hV V
  clear H3 h1 hwb w1
  refine script_alone rfl rfl ?_
  intro V hV w1 h1
  have c0 := h1.cell 0 0 rfl rfl
  have c1 := h1.cell 0 1 rfl rfl
  have c2 := h1.cell 0 2 rfl rfl
  have f0 := h1.free 0 0 rfl
  have f1 := h1.free 0 1 rfl
  have f2 := h1.free 0 2 rfl
  have H4 : St (fun _ => False) w _ [Blk wb #[.string ⟨#[97]⟩, .int .i64 1, .int .i64 2] 110, Row 9 1 (.slice (some ⟨gp, 0, none⟩) 4 cp) 4 (texts [[97], [49, 46, 46, 50], [35, 49], s]), Blk rb outZ.toArray 112] := ((h1.set 0 rfl 0 (.string ⟨#[97]⟩)).set 0 rfl 1 (.int .i64 1)).set 0 rfl 2 (.int .i64 2)
  go_simp
  refine ⟨fun w' => St (fun _ => False) w w' [Blk wb #[.string ⟨#[97]⟩, .int .i64 1, .int .i64 2] 110, Row 9 1 (.slice (some ⟨gp, 0, none⟩) 4 cp) 4 (texts [[97], [49, 46, 46, 50], [35, 49], s]), Blk rb outZ.toArray 112], hV _ _ _ (fun _ h => h) (Fam.st (fun _ h => h.pick [1, 2])) ?_, H4⟩
  intro K hK
  go_simp
  refine hK _ ?_
  clear hK K hV V
  clear H4 c0 c1 c2 f0 f1 f2 h1 w1
  iterate 1 first
    | (apply script_pass
       · rfl
       · rfl
       intro K hK
       go_simp
       refine hK _ ?_
       clear hK K)
    | (apply script_step
       · rfl
       · rfl
       · intro I hI w1 h1'
         have h1 := hI.2 _ h1'
         first
           | (go_simp
              first
                | rfl
                | exact ⟨rfl, h1'⟩
             )
       intro K hK
       go_simp
       refine hK _ ?_
       clear hK K)
  refine script_nil ?_
  intro w9 H9
  clear H2 kw hcat1 hcat2
  have d2 : w9.cell? ⟨gp, 2, none⟩ = some (.string ⟨#[35, 49]⟩) := H9.rowCell 1 2 rfl rfl
  have hx1 : (⟨#[35, 49]⟩ : ByteArray).extract 1 2 = ⟨#[49]⟩ := rfl
  go_upto_region 10 with (go_at_call 75; go_must (refine (St.callPast (k1 _) H9).mono ?_; rintro e w10 ⟨rfl, H10⟩))
  clear d2 hx1 k1 H9
  have e0 : w10.cell? ⟨wb, 0, none⟩ = some (.string ⟨#[97]⟩) := H10.cell 0 0 rfl rfl
  have e1 : w10.cell? ⟨wb, 1, none⟩ = some (.int .i64 1) := H10.cell 0 1 rfl rfl
  have e2 : w10.cell? ⟨wb, 2, none⟩ = some (.int .i64 2) := H10.cell 0 2 rfl rfl
  obtain ⟨ob, hob⟩ : ∃ g, w10.heap.size = g := ⟨_, rfl⟩
  have H11 : St (fun _ => False) w (w10.alloc (.cells (outN (.slice none 0 0)).toArray 112)) [Row 9 1 (.slice (some ⟨gp, 0, none⟩) 4 cp) 4 (texts [[97], [49, 46, 46, 50], [35, 49], s]), Blk rb outZ.toArray 112, Blk ob (outN (.slice none 0 0)).toArray 112] := St.pick (l := [Blk ob (outN (.slice none 0 0)).toArray 112, Blk wb #[.string ⟨#[97]⟩, .int .i64 1, .int .i64 2] 110, Row 9 1 (.slice (some ⟨gp, 0, none⟩) 4 cp) 4 (texts [[97], [49, 46, 46, 50], [35, 49], s]), Blk rb outZ.toArray 112]) (H10.allocAt hob _ _) [2, 3, 0]
  go_upto_region 11 with (fail)
  obtain ⟨w11, hw11⟩ : ∃ w11, w10.alloc (.cells #[.bool false, .int .i64 0, .string ⟨#[]⟩, .int .i64 0, .int .i64 0, .string ⟨#[97]⟩, .int .i64 1, .int .i64 2, .int .i64 1, .slice none 0 0] 112) = w11 := ⟨_, rfl⟩
  have hw11' : w10.alloc (.cells (outN (.slice none 0 0)).toArray 112) = w11 := hw11
  rw [hw11'] at H11
  rw [hw11]
  try rw [hob]
  clear hw11 hw11' hob H10 e0 e1 e2
  have hcp := Lib.hid (slice_form' (H11.row 0 rfl))
  have h4 : (4 : Nat) ≤ cp := by
    obtain ⟨_, _, e, h, _⟩ := hcp.out
    injection e with _ _ e
    omega
  clear hcp
  go_upto_block 1 with (fail)
  go_loopw [8, 79] (fun b j wr => (j = .int .i64 0 ∧ b = .bool true ∧ St (fun _ => False) w wr [Row 9 1 (.slice (some ⟨gp, 0, none⟩) 4 cp) 4 (texts [[97], [49, 46, 46, 50], [35, 49], s]), Blk rb outZ.toArray 112, Blk ob (outN (.slice none 0 0)).toArray 112]) ∨ (j = .int .i64 1 ∧ b = .bool ok ∧ ∃ v, St (fun _ => False) w wr [Row 3 1 v 1 [.int .i64 n], Blk rb outZ.toArray 112, Blk ob (outN v).toArray 112])) (fun _ j _ => 1 - (intOf j).toNat)
  case atStart => exact .inl ⟨rfl, rfl, H11⟩
  case round =>
    clear H11
    rcases hrel with ⟨rfl, rfl, HL⟩ | ⟨rfl, rfl, v, HL⟩
    · have d3 : wr.cell? ⟨gp, 3, none⟩ = some (.string ⟨s.toArray⟩) := HL.rowCell 0 3 rfl rfl
      have z0 : decide ((0 : Int) < 1) = true := rfl
      go_upto_region 15 with (go_at_call 75; go_must (refine (St.callPast (kn _) HL).mono ?_; rintro e w12 ⟨rfl, H12⟩))
      clear d3 HL kn
      go_upto_region 16 with (fail)
      have c9 : w12.cell? ⟨ob, 9, none⟩ = some (.slice none 0 0) := H12.cell 2 9 rfl rfl
      have H13 : St (fun _ => False) w w12 [Row 3 1 (.slice none 0 0) 0 [], Row 9 1 (.slice (some ⟨gp, 0, none⟩) 4 cp) 4 (texts [[97], [49, 46, 46, 50], [35, 49], s]), Blk rb outZ.toArray 112, Blk ob (outN (.slice none 0 0)).toArray 112] := H12.row_nil 3 1
      go_wp2_with (at_builtin; go_must (refine St.list_app (H13.skip _) 0 rfl rfl (.tmp 93) (.tmp 95) 57 rfl Tryd.underlying57 Tryd.info3 (by decide) rfl [.int .i64 n] rfl rfl (new_cells #[.int .i64 n] _) (by simp [Value.oneCell']) (by omega) (by omega) ?_; intro g5 cap5 w13 H14 hz5; clear c9; have f9 := H14.free 3 9 rfl; have c9 : w13.cell? ⟨ob, 9, none⟩ = some (.slice none 0 0) := H14.cell 3 9 rfl rfl))
      go_roundw
      case rel =>
        refine .inr ⟨by go_num, rfl, .slice (some ⟨g5, 0, none⟩) 1 cap5, ?_⟩
        exact St.pick (l := [Row 3 1 (.slice (some ⟨g5, 0, none⟩) 1 cap5) 1 [.int .i64 n], Row 9 1 (.slice (some ⟨gp, 0, none⟩) 4 cp) 4 (texts [[97], [49, 46, 46, 50], [35, 49], s]), Blk rb outZ.toArray 112, Blk ob (outN (.slice (some ⟨g5, 0, none⟩) 1 cap5)).toArray 112]) (H14.set 3 rfl 9 (.slice (some ⟨g5, 0, none⟩) 1 cap5)) [0, 2, 3]
      case measure => simp [intOf]
    · obtain ⟨ao, cap, rfl, _, _⟩ := slice_form' (HL.row 0 rfl)
      have z1 : decide ((1 : Int) < 1) = false := rfl
      cases ok with
      | true =>
        have ko := fun w' => doc_oright ao cap w'
        unfold outN at ko
        have c0 : wr.cell? ⟨ob, 0, none⟩ = some (.bool false) := HL.cell 2 0 rfl rfl
        have c1 : wr.cell? ⟨ob, 1, none⟩ = some (.int .i64 0) := HL.cell 2 1 rfl rfl
        have c2 : wr.cell? ⟨ob, 2, none⟩ = some (.string ⟨#[]⟩) := HL.cell 2 2 rfl rfl
        have c3 : wr.cell? ⟨ob, 3, none⟩ = some (.int .i64 0) := HL.cell 2 3 rfl rfl
        have c4 : wr.cell? ⟨ob, 4, none⟩ = some (.int .i64 0) := HL.cell 2 4 rfl rfl
        have c5 : wr.cell? ⟨ob, 5, none⟩ = some (.string ⟨#[97]⟩) := HL.cell 2 5 rfl rfl
        have c6 : wr.cell? ⟨ob, 6, none⟩ = some (.int .i64 1) := HL.cell 2 6 rfl rfl
        have c7 : wr.cell? ⟨ob, 7, none⟩ = some (.int .i64 2) := HL.cell 2 7 rfl rfl
        have c8 : wr.cell? ⟨ob, 8, none⟩ = some (.int .i64 1) := HL.cell 2 8 rfl rfl
        have c9 : wr.cell? ⟨ob, 9, none⟩ = some (.slice ao 1 cap) := HL.cell 2 9 rfl rfl
        go_upto_if 109 with (go_at_call 76; go_must (refine (St.callPast (ko _) HL).mono ?_; rintro e w14 ⟨rfl, H14⟩))
        clear c0 c1 c2 c3 c4 c5 c6 c7 c8 c9 HL ko
        have c0 : w14.cell? ⟨ob, 0, none⟩ = some (.bool false) := H14.cell 2 0 rfl rfl
        have c1 : w14.cell? ⟨ob, 1, none⟩ = some (.int .i64 0) := H14.cell 2 1 rfl rfl
        have c2 : w14.cell? ⟨ob, 2, none⟩ = some (.string ⟨#[]⟩) := H14.cell 2 2 rfl rfl
        have c3 : w14.cell? ⟨ob, 3, none⟩ = some (.int .i64 0) := H14.cell 2 3 rfl rfl
        have c4 : w14.cell? ⟨ob, 4, none⟩ = some (.int .i64 0) := H14.cell 2 4 rfl rfl
        have c5 : w14.cell? ⟨ob, 5, none⟩ = some (.string ⟨#[97]⟩) := H14.cell 2 5 rfl rfl
        have c6 : w14.cell? ⟨ob, 6, none⟩ = some (.int .i64 1) := H14.cell 2 6 rfl rfl
        have c7 : w14.cell? ⟨ob, 7, none⟩ = some (.int .i64 2) := H14.cell 2 7 rfl rfl
        have c8 : w14.cell? ⟨ob, 8, none⟩ = some (.int .i64 1) := H14.cell 2 8 rfl rfl
        have c9 : w14.cell? ⟨ob, 9, none⟩ = some (.slice ao 1 cap) := H14.cell 2 9 rfl rfl
        have x0 : w14.cell? ⟨rb, 0, none⟩ = some (.bool false) := H14.cell 1 0 rfl rfl
        have x1 : w14.cell? ⟨rb, 1, none⟩ = some (.int .i64 0) := H14.cell 1 1 rfl rfl
        have x2 : w14.cell? ⟨rb, 2, none⟩ = some (.string ⟨#[]⟩) := H14.cell 1 2 rfl rfl
        have x3 : w14.cell? ⟨rb, 3, none⟩ = some (.int .i64 0) := H14.cell 1 3 rfl rfl
        have x4 : w14.cell? ⟨rb, 4, none⟩ = some (.int .i64 0) := H14.cell 1 4 rfl rfl
        have x5 : w14.cell? ⟨rb, 5, none⟩ = some (.string ⟨#[]⟩) := H14.cell 1 5 rfl rfl
        have x6 : w14.cell? ⟨rb, 6, none⟩ = some (.int .i64 0) := H14.cell 1 6 rfl rfl
        have x7 : w14.cell? ⟨rb, 7, none⟩ = some (.int .i64 0) := H14.cell 1 7 rfl rfl
        have x8 : w14.cell? ⟨rb, 8, none⟩ = some (.int .i64 0) := H14.cell 1 8 rfl rfl
        have x9 : w14.cell? ⟨rb, 9, none⟩ = some (.slice none 0 0) := H14.cell 1 9 rfl rfl
        have r0 := H14.free 1 0 rfl
        have r1 := H14.free 1 1 rfl
        have r2 := H14.free 1 2 rfl
        have r3 := H14.free 1 3 rfl
        have r4 := H14.free 1 4 rfl
        have r5 := H14.free 1 5 rfl
        have r6 := H14.free 1 6 rfl
        have r7 := H14.free 1 7 rfl
        have r8 := H14.free 1 8 rfl
        have r9 := H14.free 1 9 rfl
        have HR := ((((((((((H14.set 1 rfl 0 (.bool false)).set 1 rfl 1 (.int .i64 0)).set 1 rfl 2 (.string ⟨#[]⟩)).set 1 rfl 3 (.int .i64 0)).set 1 rfl 4 (.int .i64 0)).set 1 rfl 5 (.string ⟨#[97]⟩)).set 1 rfl 6 (.int .i64 1)).set 1 rfl 7 (.int .i64 2)).set 1 rfl 8 (.int .i64 1)).set 1 rfl 9 (.slice ao 1 cap))
        go_wp2
        try simp only [Exit.inBlock, Exit.then]
        refine bodyPost_ret (results_cellTmp rfl rfl (blk_rng (cs := outN (.slice ao 1 cap)) (HR.blk 1 rfl)) Tryd.underlying112 rfl (by kernel_rfl)) rfl ?_
        exact ⟨_, rfl, St.pick (l := [Row 3 1 (.slice ao 1 cap) 1 [.int .i64 n], _, _]) HR [0]⟩
      | false =>
        have x0 : wr.cell? ⟨rb, 0, none⟩ = some (.bool false) := HL.cell 1 0 rfl rfl
        have x1 : wr.cell? ⟨rb, 1, none⟩ = some (.int .i64 0) := HL.cell 1 1 rfl rfl
        have x2 : wr.cell? ⟨rb, 2, none⟩ = some (.string ⟨#[]⟩) := HL.cell 1 2 rfl rfl
        have x3 : wr.cell? ⟨rb, 3, none⟩ = some (.int .i64 0) := HL.cell 1 3 rfl rfl
        have x4 : wr.cell? ⟨rb, 4, none⟩ = some (.int .i64 0) := HL.cell 1 4 rfl rfl
        have x5 : wr.cell? ⟨rb, 5, none⟩ = some (.string ⟨#[]⟩) := HL.cell 1 5 rfl rfl
        have x6 : wr.cell? ⟨rb, 6, none⟩ = some (.int .i64 0) := HL.cell 1 6 rfl rfl
        have x7 : wr.cell? ⟨rb, 7, none⟩ = some (.int .i64 0) := HL.cell 1 7 rfl rfl
        have x8 : wr.cell? ⟨rb, 8, none⟩ = some (.int .i64 0) := HL.cell 1 8 rfl rfl
        have x9 : wr.cell? ⟨rb, 9, none⟩ = some (.slice none 0 0) := HL.cell 1 9 rfl rfl
        have r0 := HL.free 1 0 rfl
        have r1 := HL.free 1 1 rfl
        have r2 := HL.free 1 2 rfl
        have r3 := HL.free 1 3 rfl
        have r4 := HL.free 1 4 rfl
        have r5 := HL.free 1 5 rfl
        have r6 := HL.free 1 6 rfl
        have r7 := HL.free 1 7 rfl
        have r8 := HL.free 1 8 rfl
        have r9 := HL.free 1 9 rfl
        have HR := ((((((((((HL.set 1 rfl 0 (.bool false)).set 1 rfl 1 (.int .i64 0)).set 1 rfl 2 (.string ⟨#[]⟩)).set 1 rfl 3 (.int .i64 0)).set 1 rfl 4 (.int .i64 0)).set 1 rfl 5 (.string ⟨#[]⟩)).set 1 rfl 6 (.int .i64 0)).set 1 rfl 7 (.int .i64 0)).set 1 rfl 8 (.int .i64 0)).set 1 rfl 9 (.slice none 0 0))
        go_wp2
        try simp only [Exit.inBlock, Exit.then]
        refine bodyPost_ret (results_cellTmp rfl rfl (blk_rng (cs := outZ) (HR.blk 1 rfl)) Tryd.underlying112 rfl (by kernel_rfl)) rfl ?_
        exact ⟨.slice none 0 0, rfl, St.pure_iff.2 ⟨rfl, HR.pick []⟩⟩

end Go.Proofs.YtaafedpjifaghaaDoor
