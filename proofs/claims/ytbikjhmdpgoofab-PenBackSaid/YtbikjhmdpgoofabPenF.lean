/- What the pen's statements ask first. A walk without condition. -/
import Derived.Test.YtbikjhmdpgoofabPenE
import Derived.Lib.SlBytesConst
namespace Go.Proofs.Ytbikjhmdpgoofab
open Go.RowKit

def p03 : List UInt8 := vint 300 ++ vint (zig (-1)) ++ (vint 2 ++ [97, 98]) ++ [99]
theorem e03 : p03 = [172, 2, 1, 2, 97, 98, 99] ∧ rnum p03 0 300 = (300, [1, 2, 97, 98, 99], 0) ∧ rsig [1, 2, 97, 98, 99] 0 = (-1, [2, 97, 98, 99], 0) ∧ rtext [2, 97, 98, 99] 0 2 = ([97, 98], [99], 0) ∧ rfix [99] 0 1 = ([99], [], 0) ∧
    rnum [128] 0 9 = (0, [], 10) ∧ rnum [] 10 9 = (0, [], 10) ∧ rend [] 0 = 0 := by decide +kernel

set_option maxHeartbeats 2000000 in
set_option maxRecDepth 100000 in
theorem first03 (w : World) : Calls Try.prog 20 #[] w fun e w' => e = .returned (.bool true) ∧ Below w.heap.size w w' := by
  obtain ⟨q1, q2, q3, q4, q5, q6, q7, q8⟩ := e03
  have kc := fun (w : World) (C : Array Value) (n c : Nat) => Lib.run_convert_bytes_const (P := Try.prog) w 29 5 C n c Try.underlying29 Try.underlying5
  go_enter Try.func20, Try.ntmps20
  go_wp2_with fail
  have H0 : St (fun _ => False) w (w.alloc (.cells #[.slice none 0 0] 55)) [PenAt w.heap.size []] := PenAt.mk (L := []) (((St.nil _ w).row_nil 5 1).alloc _ _)
  refine (St.callOn (fun S' h => pen_number 300 (by omega) (by simp) h) H0).mono ?_
  rintro e w1 ⟨rfl, H1⟩
  have H2 : St (fun _ => False) w w1 [PenAt w.heap.size (vint 300)] := H1
  clear H1 H0
  go_wp2_with fail
  refine (St.callOn (fun S' h => pen_number (-1) (by omega) (by decide +kernel) h) H2).mono ?_
  rintro e w2 ⟨rfl, H1⟩
  have H3 : St (fun _ => False) w w2 [PenAt w.heap.size (vint 300)] := by simpa using H1
  clear H1 H2
  go_wp2_with fail
  refine (St.callOn (fun S' h => pen_signed (-1) (by omega) (by decide +kernel) h) H3).mono ?_
  rintro e w3 ⟨rfl, H4⟩
  clear H3
  go_wp2_with fail
  have H5 := St.allocObj H4 rfl (.cells (bvs [97, 98]).toArray 5 (2, 3))
  obtain ⟨S1, K1, R1, G1⟩ := St.lendAll (l1 := [_]) (H5.pick [1, 0])
  obtain ⟨S2, r1, r2⟩ := R1 0 _ rfl
  have R1 := ro_obj r1 r2 (n := 2) rfl
  refine (pen_text (by decide +kernel) (by decide) R1 K1).mono ?_
  rintro e w4 ⟨rfl, H1⟩
  have H6 : St (fun _ => False) w w4 [PenAt w.heap.size (vint 300 ++ vint (zig (-1)) ++ (vint 2 ++ [97, 98])), _] := G1 _ _ H1
  have H7 := H6.take (l1 := [_])
  clear H4 H5 H6 H1 K1 R1 G1
  go_wp2_with fail
  have H5 := St.allocObj H7 rfl (.cells (bvs [99]).toArray 5 (1, 2))
  obtain ⟨S1, K1, R1, G1⟩ := St.lendAll (l1 := [_]) (H5.pick [1, 0])
  obtain ⟨S2, r1, r2⟩ := R1 0 _ rfl
  have R1 := ro_obj r1 r2 (n := 1) rfl
  refine (pen_fixed (by decide +kernel) R1 K1).mono ?_
  rintro e w5 ⟨rfl, H1⟩
  have H6 : St (fun _ => False) w w5 [PenAt w.heap.size p03, _] := G1 _ _ H1
  have H8 := H6.take (l1 := [_])
  clear H5 H6 H1 K1 R1 G1 H7
  go_wp2_with fail
  refine (St.callEx (fun S' h => pen_bytes (by rw [q1]; decide) h) H8).mono ?_
  rintro e w6 ⟨v1, rfl, H9⟩
  have H9 : St (fun _ => False) w w6 [Row 5 1 v1 p03.length (bvs p03), PenAt w.heap.size p03] := H9
  go_wp2_with fail
  refine (read_new (own_ro (H9.row 0 rfl)).1 (by rw [q1]; decide)).mono ?_
  rintro e w7 ⟨b, rfl, H10⟩
  have H11 : St (fun _ => False) w w7 [ReaderAt b p03 0, Row 5 1 v1 p03.length (bvs p03), PenAt w.heap.size p03] := H9.call0 H10
  clear H8 H9 H10
  go_wp2_with fail
  refine (St.callOn (fun S' h => read_number 300 h) H11).mono ?_
  rintro e w8 ⟨rfl, H12⟩
  rw [q2] at H12 ⊢
  clear H11
  go_wp2_with fail
  refine (St.callOn (fun S' h => read_signed h) H12).mono ?_
  rintro e w9 ⟨rfl, H13⟩
  rw [q3] at H13 ⊢
  clear H12
  go_wp2_with fail
  refine (St.callEx (fun S' h => read_text 2 (by decide) h) H13).mono ?_
  rintro e w10 ⟨v2, rfl, H14⟩
  rw [q4] at H14
  have H14 : St (fun _ => False) w w10 [Row 5 1 v2 2 (bvs [97, 98]), ReaderAt b [99] 0, _, _] := H14
  clear H13
  go_wp2_with fail
  refine (St.callEx (fun S' h => read_fixed 1 (by decide) h) (H14.pick [1, 0, 2, 3])).mono ?_
  rintro e w11 ⟨v3, rfl, H15⟩
  rw [q5] at H15
  have H15 : St (fun _ => False) w w11 [Row 5 1 v3 1 (bvs [99]), ReaderAt b [] 0, Row 5 1 v2 2 (bvs [97, 98]), _, _] := H15
  clear H14
  go_wp2_with fail
  obtain ⟨w12, hw12⟩ : ∃ w12, w11.alloc (.cells #[.int .u8 128] 5) = w12 := ⟨_, rfl⟩
  have H16 : St (fun _ => False) w w12 [Blk w11.heap.size (bvs [128]).toArray 5, Row 5 1 v3 1 (bvs [99]), ReaderAt b [] 0, Row 5 1 v2 2 (bvs [97, 98]), Row 5 1 v1 p03.length (bvs p03), PenAt w.heap.size p03] := by
    rw [← hw12]
    exact St.allocAt H15 rfl (bvs [128]).toArray 5
  rw [hw12]
  have hro : BytesRO (fun _ => False) w12 (.slice (some ⟨w11.heap.size, 0, none⟩) 1 1) [128] := ⟨_, 1, rfl, Nat.le_refl _, fun _ => ⟨w11.heap.size, 0, rfl, H16.blk_lt 0 rfl, id, fun i hi => by
    obtain rfl : i = 0 := by simpa using hi
    exact H16.cell 0 0 rfl rfl⟩⟩
  refine (read_new hro (by decide)).mono ?_
  rintro e w13 ⟨b2, rfl, H17⟩
  have H18 : St (fun _ => False) w w13 [ReaderAt b2 [128] 0, _, Row 5 1 v3 1 (bvs [99]), ReaderAt b [] 0, Row 5 1 v2 2 (bvs [97, 98]), Row 5 1 v1 p03.length (bvs p03), PenAt w.heap.size p03] := H16.call0 H17
  clear H15 H16 H17 hro
  go_wp2_with fail
  refine (St.callOn (fun S' h => read_number 9 h) H18).mono ?_
  rintro e w14 ⟨rfl, H19⟩
  rw [q6] at H19 ⊢
  clear H18
  have HZ : St (fun _ => False) w w14 [PenAt w.heap.size p03, ReaderAt b2 [] 10, Row 5 1 v3 1 (bvs [99]), ReaderAt b [] 0, Row 5 1 v2 2 (bvs [97, 98])] := H19.pick [6, 0, 2, 3, 4]
  clear H19
  go_wp2_with (first
    | (go_at_call 28; go_must (refine (St.callEx (fun S' h => pen_bytes (by rw [q1]; decide) h) HZ).mono ?_; rintro e w15 ⟨v4, rfl, HY⟩; have HY : St (fun _ => False) w w15 [Row 5 1 v4 p03.length (bvs p03), PenAt w.heap.size p03, ReaderAt b2 [] 10, Row 5 1 v3 1 (bvs [99]), ReaderAt b [] 0, Row 5 1 v2 2 (bvs [97, 98])] := HY; have hc1 := own_text' (HY.row 0 rfl); have hc2 := own_text' (HY.row 5 rfl); have hc3 := own_text' (HY.row 3 rfl); rw [q1] at hc1))
    | (go_at_call 41; go_must (refine (read_end (HY.pick [4]).sep).mono ?_; rintro e w16 ⟨rfl, rfl⟩; rw [q8]))
    | (go_at_call 40; go_must (refine (read_err (HY.pick [2]).sep).mono ?_; rintro e w17 ⟨rfl, rfl⟩))
    | (go_at_call 30; go_must (refine (St.callOn (fun S' h => read_number 9 h) (HY.pick [2])).mono ?_; rintro e w18 ⟨rfl, HX⟩; rw [q7])))
  go_ret
  exact ⟨rfl, HX.below (Nat.le_refl _) (fun _ h => h.elim)⟩

end Go.Proofs.Ytbikjhmdpgoofab
