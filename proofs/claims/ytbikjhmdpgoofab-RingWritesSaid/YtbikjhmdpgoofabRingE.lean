/- What the ring's statements ask first. A walk without condition. -/
import Derived.Test.YtbikjhmdpgoofabRingE1
namespace Go.Proofs.Ytbikjhmdpgoofab
open Go.RowKit

set_option maxHeartbeats 1000000 in
set_option maxRecDepth 100000 in
theorem first15 (w : World) : Calls Try.prog 9 #[] w fun e w' => e = .returned (.bool true) ∧ Below w.heap.size w w' := by
  obtain ⟨gb, gc, gd⟩ := g15
  obtain ⟨e1, e2, e3, e4, e5, e6, e7, e8, e9, e10, e11, e12⟩ := e15
  obtain ⟨a0, ha0, hm1⟩ := make256
  have hA1 : a0[0]? = some (.int .u8 0) := by subst ha0; rfl
  have hA2 : (a0.setIfInBounds 0 (.int .u8 5))[255]? = some (.int .u8 0) := by subst ha0; rfl
  have hA3 := Lib.hid ha0
  clear ha0
  go_enter Try.func9, Try.ntmps9
  go_wp2_with fail
  have H0 := (St.nil (fun _ => False) w).allocAt rfl #[.int .i64 2, .int .i64 8] 23
  refine (store_made 10 (by omega) (by omega) _).mono ?_
  rintro e w1 ⟨b, rfl, H1⟩
  have H2 : St _ w w1 [StoreAt b (newStore 10), Blk w.heap.size #[.int .i64 2, .int .i64 8] 23] := H0.call0 H1
  clear H0 H1
  have c0 := H2.cell 1 0 rfl rfl
  have c1 := H2.cell 1 1 rfl rfl
  have hlt := H2.blk_lt 1 rfl
  go_wp2_with fail
  have H3 : St _ w _ [_, _, _] := (H2.allocAt rfl ((a0.setIfInBounds 0 (.int .u8 5)).setIfInBounds 255 (.int .u8 6)) 5).pick [1, 0, 2]
  rw [hA3.out, bb15_cells] at H3 ⊢
  obtain ⟨S1, K1, R1, G1⟩ := St.lend (l1 := [_]) H3 bb15_len
  refine (ring_write 2 8 8 (newStore_good (by omega) (by omega)) (by decide) R1 (by rw [bb15_len]; omega) K1).mono ?_
  rintro e w2 ⟨rfl, H4⟩
  have H5 : St _ w w2 [StoreAt b m15b, _, _] := G1 _ _ H4
  rw [e1]
  clear K1 R1 G1 H4 H3 H2 c0 c1 hlt
  have c0 := H5.cell 2 0 rfl rfl
  have c1 := H5.cell 2 1 rfl rfl
  go_wp2_with fail
  obtain ⟨S1, K1, G1⟩ := St.call (l1 := [_]) H5
  refine (ring_read 2 8 8 2 gb (by omega) K1).mono ?_
  rintro e w3 ⟨vc, rfl, H6⟩
  have H7 : St _ w w3 [Row 5 1 vc r15.length (bvs r15), StoreAt b m15c, _, _] := G1 _ _ H6
  rw [e2]
  clear K1 G1 H6 H5 c0 c1
  rw [e4, bb15_len] at H7
  obtain ⟨gcx, ccx, rfl⟩ := row_form (H7.row 0 rfl) (N := 256) rfl (by omega)
  go_wp2_with fail
  obtain ⟨S1, K1, G1⟩ := St.call (l1 := [_]) (H7.pick [1, 0, 2, 3])
  refine (store_read gc K1).mono ?_
  rintro e w4 ⟨vx, rfl, H8⟩
  have H9 : St _ w w4 [BytesAt vx x15, StoreAt b m15d, _, _, _] := G1 _ _ H8
  rw [e3]
  clear K1 G1 H8 H7
  obtain ⟨gx, tx, rfl, H10⟩ := BytesAt.out H9 e5 (by omega)
  have H11 : St _ w w4 [StoreAt b m15d, Blk gx (bvs x15).toArray tx, Row 5 1 (.slice (some ⟨gcx, 0, none⟩) 256 ccx) 256 (bvs bb15), _, _] := H10.pick [1, 0, 2, 3, 4]
  have HH := H11
  clear H11 H10 H9
  have c0 := HH.cell 4 0 rfl rfl
  have c1 := HH.cell 4 1 rfl rfl
  have x0 : (bvs x15).toArray[0]? = some (.int .u8 5) := by simp [bvs, e6, bv]
  clear c0 c1
  have k7 := fun w' => ring_start 2 8 6 3 w'
  simp only [e7, ringV] at k7
  have k8 := fun w' => ring_block 2 8 9 w'
  simp only [e8, ringV] at k8
  have k9 := fun w' => ring_room 2 8 0 5 3 w'
  simp only [e9, ringV] at k9
  have k10 := fun w' => ring_room 2 8 0 6 3 w'
  simp only [e10, ringV] at k10
  have k11 := fun w' => ring_right 2 8 10 w'
  simp only [e11, ringV] at k11
  have k12 := fun w' => ring_right 2 8 9 w'
  simp only [e12, ringV] at k12
  have k13 := fun w' => ring_write_nil 2 8 0 (some ⟨w1.heap.size, 0, none⟩) 256 256 w' (by omega)
  simp only [ringV] at k13
  go_upto_region 8 with (fail)
  obtain ⟨wb, hwb⟩ : ∃ wb, w1.heap.size = wb := ⟨_, rfl⟩
  rw [hwb] at HH
  simp only [hwb] at k13 ⊢
  refine wp_plain (fun w' => St (fun _ => False) w w' [StoreAt b m15d, Blk gx (bvs x15).toArray tx, Row 5 1 (.slice (some ⟨gcx, 0, none⟩) 256 ccx) 256 (bvs bb15), Blk wb (bvs bb15).toArray 5, Blk w.heap.size #[.int .i64 2, .int .i64 8] 23]) (HH) ?_
  iterate 58 first
    | (apply calm_pass
       · rfl
       intro K hK
       go_simp
       refine hK _ ?_
       clear hK K)
    | (apply calm_step
       · rfl
       · intro w1 h1
         have c0 := h1.cell 4 0 rfl rfl
         have c1 := h1.cell 4 1 rfl rfl
         have cx := h1.cell 1 0 rfl x0
         have hcv1 := conv_text (w := w1) (b := gcx) (o := 0) (cap := ccx) (l := bb15) (fun j v hj => by rw [Nat.zero_add]; exact own_cell (h1.row 2 rfl) hj) bb15_len
         have hcv2 := conv_text (w := w1) (b := wb) (o := 0) (cap := 256) (l := bb15) (fun j v hj => by rw [cell_blk (h1.blk 3 rfl)]; simpa using hj) bb15_len
         go_simp
         first
           | rfl
           | exact ⟨rfl, h1⟩
           | (go_at_call 10; with_reducible exact St.callPast (k7 w1) h1)
           | (go_at_call 11; with_reducible exact St.callPast (k8 w1) h1)
           | (go_at_call 58; with_reducible exact St.callPast (k9 w1) h1)
           | (go_at_call 58; with_reducible exact St.callPast (k10 w1) h1)
           | (go_at_call 59; with_reducible exact St.callPast (k11 w1) h1)
           | (go_at_call 59; with_reducible exact St.callPast (k12 w1) h1)
           | (go_at_call 15; with_reducible exact St.callPast (k13 w1) h1)
       intro K hK
       go_simp
       refine hK _ ?_
       clear hK K)
  refine calm_nil ?_
  intro w5 H5
  go_wp2
  go_ret
  exact ⟨rfl, H5.below (Nat.le_refl _) (fun _ h => h.elim)⟩
end Go.Proofs.Ytbikjhmdpgoofab
