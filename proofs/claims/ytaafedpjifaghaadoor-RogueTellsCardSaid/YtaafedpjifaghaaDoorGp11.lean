import Derived.Test.YtaafedpjifaghaaDoorGp10
/- The walk of the reference's rogue: Do, kind 2. Conditions: its blocks lie as its maker lays them. (Printed by gen_rrd.py.) -/
set_option linter.unusedVariables false
set_option linter.unusedSimpArgs false
namespace Go.Proofs.YtaafedpjifaghaaDoor
open Go.RowKit

set_option maxHeartbeats 4000000 in
set_option maxRecDepth 100000 in
theorem ref24_do2 {b b2 : Nat} {iv : Value} {r : RogM} {vs : List Value} (at' tt n : Int) (bb : List UInt8) {x : Value} {w : World} {S : Nat → Prop} (hg : r.Good) (hvs : vs.length = r.imgs.length) (H : Sep w [RrB b b2 iv, RefAt b2 r.s, TR iv r.imgs vs, Pile TA vs r.imgs] S) :
    Calls Tryd.prog 13 #[.pointer (some ⟨b, 0, none⟩), .agg (mvCells ⟨2, at', tt, n, bb⟩ x)] w fun e w' => e = .returned (.bool (r.do ⟨2, at', tt, n, bb⟩).1) ∧ St S w w' [RrB b b2 iv, RefAt b2 (r.do ⟨2, at', tt, n, bb⟩).2.s, TR iv r.imgs vs, Pile TA vs r.imgs] := by
  obtain ⟨m, imgs⟩ := r
  have hroom := hg.room
  have hgs := hg.s
  have hcnt := hg.s.count
  have hif := hg.s.full
  have himg := hg.imgs
  simp only at hroom hcnt hgs hif hvs himg
  obtain ⟨mb, hmb⟩ : ∃ g, w.heap.size = g := ⟨_, rfl⟩
  obtain ⟨S1, hT⟩ := H.get 2 rfl
  obtain ⟨ao, ci, rfl, hci, hao⟩ := Off.shape hT
  obtain ⟨vl, vw, vc, H1⟩ := RefAt.open (St.pick (St.refl H) [1, 0, 2, 3])
  have HA := ((H1.allocAt hmb (mvCells ⟨2, at', tt, n, bb⟩ x) 40).pick [0, 5, 1, 2, 3, 4, 6, 7])
  have HA : St S w (w.alloc (.cells (mvCells ⟨2, at', tt, n, bb⟩ x) 40)) [Blk mb (mvCells ⟨2, at', tt, n, bb⟩ x) 40, RrB b b2 (.slice ao imgs.length ci), Blk b2 #[vl, vw, .int .i64 m.calls, vc] 67, Row 9 1 vl m.last.length (texts m.last), Row 103 2 vw m.waits.length (refWaits m.waits), Row 3 1 vc m.reads.length (intCells m.reads), TR (.slice ao imgs.length ci) imgs vs, Pile TA vs imgs] := HA
  obtain ⟨gl, cl, rfl⟩ := row_form (HA.row 3 rfl) (N := m.last.length) rfl (by omega)
  obtain ⟨K, hK⟩ : ∃ K, imgs.length = K := ⟨_, rfl⟩
  obtain ⟨M, hM⟩ : ∃ M, m.last.length = M := ⟨_, rfl⟩
  have hfold := fun (w' : World) (h : St S w w' [Blk mb (mvCells ⟨2, at', tt, n, bb⟩ x) 40, RrB b b2 (.slice ao K ci), Blk b2 #[.slice (some ⟨gl, 0, none⟩) M cl, vw, .int .i64 m.calls, vc] 67, Row 9 1 (.slice (some ⟨gl, 0, none⟩) M cl) M (texts m.last), Row 103 2 vw m.waits.length (refWaits m.waits), Row 3 1 vc m.reads.length (intCells m.reads), TR (.slice ao K ci) imgs vs, Pile TA vs imgs]) => show St S w w' [RefAt b2 m, Blk mb (mvCells ⟨2, at', tt, n, bb⟩ x) 40, RrB b b2 (.slice ao K ci), TR (.slice ao K ci) imgs vs, Pile TA vs imgs] from RefAt.mk (l := [_, _, _, _]) (vl := .slice (some ⟨gl, 0, none⟩) M cl) (vw := vw) (vc := vc) (by unfold refParts; rw [hM]; exact h.pick [2, 3, 4, 5, 0, 1, 6, 7])
  rw [hK] at HA hroom hvs hci hao
  rw [hM] at HA hcnt
  rw [hK]
  have d0 : (w.alloc (.cells (mvCells ⟨2, at', tt, n, bb⟩ x) 40)).cell? ⟨mb, 0, none⟩ = some (.int .i64 2) := HA.cell 0 0 rfl rfl
  have d1 : (w.alloc (.cells (mvCells ⟨2, at', tt, n, bb⟩ x) 40)).cell? ⟨mb, 1, none⟩ = some (.int .i64 at') := HA.cell 0 1 rfl rfl
  have d2 : (w.alloc (.cells (mvCells ⟨2, at', tt, n, bb⟩ x) 40)).cell? ⟨mb, 2, none⟩ = some (.int .i64 tt) := HA.cell 0 2 rfl rfl
  have d3 : (w.alloc (.cells (mvCells ⟨2, at', tt, n, bb⟩ x) 40)).cell? ⟨mb, 3, none⟩ = some (.int .i64 n) := HA.cell 0 3 rfl rfl
  have d4 : (w.alloc (.cells (mvCells ⟨2, at', tt, n, bb⟩ x) 40)).cell? ⟨mb, 4, none⟩ = some x := HA.cell 0 4 rfl rfl
  have c0 : (w.alloc (.cells (mvCells ⟨2, at', tt, n, bb⟩ x) 40)).cell? ⟨b, 0, none⟩ = some (.pointer (some ⟨b2, 0, none⟩)) := HA.cell 1 0 rfl rfl
  have c1 : (w.alloc (.cells (mvCells ⟨2, at', tt, n, bb⟩ x) 40)).cell? ⟨b, 1, none⟩ = some (.slice ao K ci) := HA.cell 1 1 rfl rfl
  have s0 : (w.alloc (.cells (mvCells ⟨2, at', tt, n, bb⟩ x) 40)).cell? ⟨b2, 0, none⟩ = some (.slice (some ⟨gl, 0, none⟩) M cl) := HA.cell 2 0 rfl rfl
  obtain ⟨bi, hbi⟩ : ∃ bi, (decide (0 ≤ at') && decide (at' < (M : Int))) = bi := ⟨_, rfl⟩
  obtain ⟨bt, hbt⟩ : ∃ bt, (decide (0 ≤ tt) && decide (tt < (M : Int))) = bt := ⟨_, rfl⟩
  have ka := fun w => ref24_among at' M w
  have kb := fun w => ref24_among tt M w
  rw [hbi] at ka
  rw [hbt] at kb
  have hin := Lib.hid (show (bi = true ↔ m.among at' 1) by rw [← hbi]; simp [StM.among, hM]; omega)
  have hto := Lib.hid (show (bt = true ↔ m.among tt 1) by rw [← hbt]; simp [StM.among, hM]; omega)
  obtain ⟨od, hod⟩ : ∃ od : Nat, (if imgs = [] then 0 else (RogM.mk m imgs).ix n) = od := ⟨_, rfl⟩
  have hodc : K = 0 ∧ od = 0 ∨ 0 < K ∧ n.tmod K < 0 ∧ (od : Int) = n.tmod K + K ∧ od < K ∨ 0 < K ∧ 0 ≤ n.tmod K ∧ (od : Int) = n.tmod K ∧ od < K := by
    rw [← hod, ← hK]
    exact old_cases n m imgs
  clear hbi hbt H1 hT S1
  go_enter Tryd.func13, Tryd.ntmps13
  go_upto_if 44 with (go_at_call 31; first | (with_reducible refine (ka _).mono ?_; rintro e w' ⟨rfl, rfl⟩) | (refine (kb _).mono ?_; rintro e w' ⟨rfl, rfl⟩))
  obtain ⟨wa, hwa⟩ : ∃ wa, w.alloc (.cells (mvCells ⟨2, at', tt, n, bb⟩ x) 40) = wa := ⟨_, rfl⟩
  rw [hwa] at HA d0 d1 d2 d3 d4 c0 c1 s0
  rw [hwa]
  clear hwa ka kb
  go_cut [9] from 43 to 53 (fun o wx => o = .int .i64 (od : Int) ∧ wx = wa)
  case first =>
    rcases hodc with ⟨q1, q2⟩ | ⟨q1, q2, q3, q4⟩ | ⟨q1, q2, q3, q4⟩
    · have z4 : ¬ (0 : Int) < (K : Int) := by omega
      have q2h := Lib.hid q2
      clear q1 q2
      go_wp2
      go_meet
      exact ⟨by rw [q2h.out]; rfl, rfl⟩
    · obtain ⟨t, ht⟩ : ∃ t, n.tmod (K : Int) = t := ⟨_, rfl⟩
      rw [ht] at q2 q3
      have z0 : ((K : Int) == 0) = false := by simp; omega
      have z1 : IntKind.i64.wrap t = t := by rw [IntKind.wrap_i64]; omega
      have z2 : IntKind.i64.wrap (t + (K : Int)) = (od : Int) := by rw [IntKind.wrap_i64]; omega
      have z3 : decide (t < 0) = true := by simpa using q2
      have z4 : (0 : Int) < (K : Int) := by omega
      clear q3
      go_wp2
      go_meet
      exact ⟨rfl, rfl⟩
    · obtain ⟨t, ht⟩ : ∃ t, n.tmod (K : Int) = t := ⟨_, rfl⟩
      rw [ht] at q2 q3
      have z0 : ((K : Int) == 0) = false := by simp; omega
      have z1 : IntKind.i64.wrap t = t := by rw [IntKind.wrap_i64]; omega
      have z3 : decide (t < 0) = false := by simpa using q2
      have z4 : (0 : Int) < (K : Int) := by omega
      have q3h := Lib.hid q3
      clear q3
      go_wp2
      go_meet
      exact ⟨by rw [q3h.out], rfl⟩
  case rest =>
    obtain ⟨rfl, rfl⟩ := hcut
    cases bi
    · have hn1 : ¬ m.among at' n := fun h => by have := hin.out.2 ⟨h.1, by omega, by have := h.2; omega⟩; cases this
      have hfin := Lib.hid (show RogM.do ⟨m, imgs⟩ ⟨2, at', tt, n, bb⟩ = (false, ⟨m, imgs⟩) by
        unfold RogM.do
        simp [hn1])
      go_wp2
      go_ret
      rw [hfin.out]
      exact ⟨rfl, (hfold _ HA).pick [2, 0, 3, 4]⟩
    · obtain ⟨p, rfl, hp⟩ := among_one (hin.out.1 rfl)
      rw [hM] at hp
      have hw1 : IntKind.i64.wrap ((M : Int) - (p : Int)) = (M : Int) - (p : Int) := by rw [IntKind.wrap_i64]; omega
      by_cases h2 : n < 1
      · have hd5 : decide (n < 1) = true := by simpa using h2
        have hn1 : ¬ m.among p n := fun h => by have := h.2.1; omega
        have hfin := Lib.hid (show RogM.do ⟨m, imgs⟩ ⟨2, p, tt, n, bb⟩ = (false, ⟨m, imgs⟩) by
          unfold RogM.do
          simp [hn1])
        go_wp2
        go_ret
        rw [hfin.out]
        exact ⟨rfl, (hfold _ HA).pick [2, 0, 3, 4]⟩
      · have hd5 : decide (n < 1) = false := by simpa using h2
        by_cases h3 : (M : Int) - (p : Int) < n
        · have hd6 : decide ((M : Int) - (p : Int) < n) = true := by simpa using h3
          have hn1 : ¬ m.among p n := fun h => by have := h.2.2; omega
          have hfin := Lib.hid (show RogM.do ⟨m, imgs⟩ ⟨2, p, tt, n, bb⟩ = (false, ⟨m, imgs⟩) by
            unfold RogM.do
            simp [hn1])
          go_wp2
          go_ret
          rw [hfin.out]
          exact ⟨rfl, (hfold _ HA).pick [2, 0, 3, 4]⟩
        · have hd6 : decide ((M : Int) - (p : Int) < n) = false := by simpa using h3
          obtain ⟨k, rfl⟩ : ∃ k : Nat, n = k := ⟨n.toNat, by omega⟩
          have hpk : p + k ≤ M := by omega
          have hm : m.among p k := ⟨by omega, by omega, by omega⟩
          have hfin := Lib.hid (show RogM.do ⟨m, imgs⟩ ⟨2, p, tt, k, bb⟩ = (true, ⟨m.lays p (List.replicate k zero128), imgs⟩) by
            unfold RogM.do
            simp [hm, RogM.put])
          clear hin hto hodc
          go_upto_block 4 with (fail)
          have HF := hfold _ HA
          clear HA d0 d1 d2 d3 d4 c0 c1 s0
          go_loopw [13] (fun j wr => ∃ i : Nat, i ≤ k ∧ j = .int .i64 i ∧ St S w wr [RefAt b2 (m.lays p (List.replicate i zero128)), Blk mb (mvCells ⟨2, (p : Int), tt, (k : Int), bb⟩ x) 40, RrB b b2 (.slice ao K ci), TR (.slice ao K ci) imgs vs, Pile TA vs imgs]) (fun j _ => k - (intOf j).toNat)
          case atStart => exact ⟨0, by omega, rfl, HF⟩
          case round =>
            clear HF
            obtain ⟨i, hi, rfl, HL⟩ := hrel
            have d3 : wr.cell? ⟨mb, 3, none⟩ = some (.int .i64 k) := HL.cell 1 3 rfl rfl
            by_cases hlt : i < k
            · have hg1 := lays_good p (List.replicate i zero128) m hgs
              have hl1 := lays_len p (List.replicate i zero128) m
              have hst : ((m.lays p (List.replicate i zero128)).lay ((p : Int) + i) zero128).2 = m.lays p (List.replicate (i + 1) zero128) := by
                rw [List.replicate_succ', lays_snoc, List.length_replicate]
              have ok1 : ((m.lays p (List.replicate i zero128)).lay ((p : Int) + i) zero128).1 = true := lay_ok (by omega) (by omega) rfl
              have hw2 : IntKind.i64.wrap ((p : Int) + (i : Int)) = (p : Int) + (i : Int) := by rw [IntKind.wrap_i64]; omega
              have hsth := Lib.hid hst
              clear hst hl1
              go_upto_region 30 with (fail)
              clear d3
              have HF := HL
              refine wp_calm_tail 9 (fun w' => St S w w' [RefAt b2 (m.lays p (List.replicate i zero128)), Blk mb (mvCells ⟨2, (p : Int), tt, (k : Int), bb⟩ x) 40, RrB b b2 (.slice ao K ci), TR (.slice ao K ci) imgs vs, Pile TA vs imgs]) (by kernel_rfl) (by kernel_rfl) (HF.drew) ?_
              simp only [List.take_succ_cons, List.take_zero, List.drop_succ_cons, List.drop_zero]
              iterate 9 first
                | (apply calm_pass
                   · rfl
                   intro K hK
                   go_simp
                   refine hK _ ?_
                   clear hK K)
                | (apply calm_step
                   · rfl
                   · intro w1 h1
                     have e0 : w1.cell? ⟨b, 0, none⟩ = some (.pointer (some ⟨b2, 0, none⟩)) := h1.cell 2 0 rfl rfl
                     have e1 : w1.cell? ⟨mb, 1, none⟩ = some (.int .i64 p) := h1.cell 1 1 rfl rfl
                     first
                       | (go_simp
                          first
                            | rfl
                            | exact ⟨rfl, h1⟩
                            | (go_at_call 33; with_reducible exact St.callSame' (ref24_noughts _) h1)
                         )
                   intro K hK
                   go_simp
                   refine hK _ ?_
                   clear hK K)
              refine calm_nil ?_
              intro w5 H5
              go_wp2_with (go_at_call 32; go_must (refine (lay_text (X := zero128) hg1 (by decide) ok1 H5).mono ?_; rintro e w6 ⟨rfl, H6⟩))
              rw [hsth.out] at H6
              go_roundw
              case rel => exact ⟨i + 1, by omega, by go_num, H6⟩
              case measure => simp [intOf]; omega
            · obtain rfl : i = k := by omega
              go_wp2
              go_ret
              rw [hfin.out]
              exact ⟨rfl, HL.pick [2, 0, 3, 4]⟩

end Go.Proofs.YtaafedpjifaghaaDoor

/- The walk of the reference's rogue: Do, kind 3. Conditions: its blocks lie as its maker lays them. (Printed by gen_rrd.py.) -/
set_option linter.unusedVariables false
set_option linter.unusedSimpArgs false
namespace Go.Proofs.YtaafedpjifaghaaDoor
open Go.RowKit

set_option maxHeartbeats 4000000 in
set_option maxRecDepth 100000 in
theorem ref24_do3 {b b2 : Nat} {iv : Value} {r : RogM} {vs : List Value} (at' tt n : Int) (bb : List UInt8) {x : Value} {w : World} {S : Nat → Prop} (hg : r.Good) (hvs : vs.length = r.imgs.length) (H : Sep w [RrB b b2 iv, RefAt b2 r.s, TR iv r.imgs vs, Pile TA vs r.imgs] S) :
    Calls Tryd.prog 13 #[.pointer (some ⟨b, 0, none⟩), .agg (mvCells ⟨3, at', tt, n, bb⟩ x)] w fun e w' => e = .returned (.bool (r.do ⟨3, at', tt, n, bb⟩).1) ∧ St S w w' [RrB b b2 iv, RefAt b2 (r.do ⟨3, at', tt, n, bb⟩).2.s, TR iv r.imgs vs, Pile TA vs r.imgs] := by
  obtain ⟨m, imgs⟩ := r
  have hroom := hg.room
  have hgs := hg.s
  have hcnt := hg.s.count
  have hif := hg.s.full
  have himg := hg.imgs
  simp only at hroom hcnt hgs hif hvs himg
  obtain ⟨mb, hmb⟩ : ∃ g, w.heap.size = g := ⟨_, rfl⟩
  obtain ⟨S1, hT⟩ := H.get 2 rfl
  obtain ⟨ao, ci, rfl, hci, hao⟩ := Off.shape hT
  obtain ⟨vl, vw, vc, H1⟩ := RefAt.open (St.pick (St.refl H) [1, 0, 2, 3])
  have HA := ((H1.allocAt hmb (mvCells ⟨3, at', tt, n, bb⟩ x) 40).pick [0, 5, 1, 2, 3, 4, 6, 7])
  have HA : St S w (w.alloc (.cells (mvCells ⟨3, at', tt, n, bb⟩ x) 40)) [Blk mb (mvCells ⟨3, at', tt, n, bb⟩ x) 40, RrB b b2 (.slice ao imgs.length ci), Blk b2 #[vl, vw, .int .i64 m.calls, vc] 67, Row 9 1 vl m.last.length (texts m.last), Row 103 2 vw m.waits.length (refWaits m.waits), Row 3 1 vc m.reads.length (intCells m.reads), TR (.slice ao imgs.length ci) imgs vs, Pile TA vs imgs] := HA
  obtain ⟨gl, cl, rfl⟩ := row_form (HA.row 3 rfl) (N := m.last.length) rfl (by omega)
  obtain ⟨K, hK⟩ : ∃ K, imgs.length = K := ⟨_, rfl⟩
  obtain ⟨M, hM⟩ : ∃ M, m.last.length = M := ⟨_, rfl⟩
  have hfold := fun (w' : World) (h : St S w w' [Blk mb (mvCells ⟨3, at', tt, n, bb⟩ x) 40, RrB b b2 (.slice ao K ci), Blk b2 #[.slice (some ⟨gl, 0, none⟩) M cl, vw, .int .i64 m.calls, vc] 67, Row 9 1 (.slice (some ⟨gl, 0, none⟩) M cl) M (texts m.last), Row 103 2 vw m.waits.length (refWaits m.waits), Row 3 1 vc m.reads.length (intCells m.reads), TR (.slice ao K ci) imgs vs, Pile TA vs imgs]) => show St S w w' [RefAt b2 m, Blk mb (mvCells ⟨3, at', tt, n, bb⟩ x) 40, RrB b b2 (.slice ao K ci), TR (.slice ao K ci) imgs vs, Pile TA vs imgs] from RefAt.mk (l := [_, _, _, _]) (vl := .slice (some ⟨gl, 0, none⟩) M cl) (vw := vw) (vc := vc) (by unfold refParts; rw [hM]; exact h.pick [2, 3, 4, 5, 0, 1, 6, 7])
  rw [hK] at HA hroom hvs hci hao
  rw [hM] at HA hcnt
  rw [hK]
  have d0 : (w.alloc (.cells (mvCells ⟨3, at', tt, n, bb⟩ x) 40)).cell? ⟨mb, 0, none⟩ = some (.int .i64 3) := HA.cell 0 0 rfl rfl
  have d1 : (w.alloc (.cells (mvCells ⟨3, at', tt, n, bb⟩ x) 40)).cell? ⟨mb, 1, none⟩ = some (.int .i64 at') := HA.cell 0 1 rfl rfl
  have d2 : (w.alloc (.cells (mvCells ⟨3, at', tt, n, bb⟩ x) 40)).cell? ⟨mb, 2, none⟩ = some (.int .i64 tt) := HA.cell 0 2 rfl rfl
  have d3 : (w.alloc (.cells (mvCells ⟨3, at', tt, n, bb⟩ x) 40)).cell? ⟨mb, 3, none⟩ = some (.int .i64 n) := HA.cell 0 3 rfl rfl
  have d4 : (w.alloc (.cells (mvCells ⟨3, at', tt, n, bb⟩ x) 40)).cell? ⟨mb, 4, none⟩ = some x := HA.cell 0 4 rfl rfl
  have c0 : (w.alloc (.cells (mvCells ⟨3, at', tt, n, bb⟩ x) 40)).cell? ⟨b, 0, none⟩ = some (.pointer (some ⟨b2, 0, none⟩)) := HA.cell 1 0 rfl rfl
  have c1 : (w.alloc (.cells (mvCells ⟨3, at', tt, n, bb⟩ x) 40)).cell? ⟨b, 1, none⟩ = some (.slice ao K ci) := HA.cell 1 1 rfl rfl
  have s0 : (w.alloc (.cells (mvCells ⟨3, at', tt, n, bb⟩ x) 40)).cell? ⟨b2, 0, none⟩ = some (.slice (some ⟨gl, 0, none⟩) M cl) := HA.cell 2 0 rfl rfl
  obtain ⟨bi, hbi⟩ : ∃ bi, (decide (0 ≤ at') && decide (at' < (M : Int))) = bi := ⟨_, rfl⟩
  obtain ⟨bt, hbt⟩ : ∃ bt, (decide (0 ≤ tt) && decide (tt < (M : Int))) = bt := ⟨_, rfl⟩
  have ka := fun w => ref24_among at' M w
  have kb := fun w => ref24_among tt M w
  rw [hbi] at ka
  rw [hbt] at kb
  have hin := Lib.hid (show (bi = true ↔ m.among at' 1) by rw [← hbi]; simp [StM.among, hM]; omega)
  have hto := Lib.hid (show (bt = true ↔ m.among tt 1) by rw [← hbt]; simp [StM.among, hM]; omega)
  obtain ⟨od, hod⟩ : ∃ od : Nat, (if imgs = [] then 0 else (RogM.mk m imgs).ix n) = od := ⟨_, rfl⟩
  have hodc : K = 0 ∧ od = 0 ∨ 0 < K ∧ n.tmod K < 0 ∧ (od : Int) = n.tmod K + K ∧ od < K ∨ 0 < K ∧ 0 ≤ n.tmod K ∧ (od : Int) = n.tmod K ∧ od < K := by
    rw [← hod, ← hK]
    exact old_cases n m imgs
  clear hbi hbt H1 hT S1
  go_enter Tryd.func13, Tryd.ntmps13
  go_upto_if 44 with (go_at_call 31; first | (with_reducible refine (ka _).mono ?_; rintro e w' ⟨rfl, rfl⟩) | (refine (kb _).mono ?_; rintro e w' ⟨rfl, rfl⟩))
  obtain ⟨wa, hwa⟩ : ∃ wa, w.alloc (.cells (mvCells ⟨3, at', tt, n, bb⟩ x) 40) = wa := ⟨_, rfl⟩
  rw [hwa] at HA d0 d1 d2 d3 d4 c0 c1 s0
  rw [hwa]
  clear hwa ka kb
  go_cut [9] from 43 to 53 (fun o wx => o = .int .i64 (od : Int) ∧ wx = wa)
  case first =>
    rcases hodc with ⟨q1, q2⟩ | ⟨q1, q2, q3, q4⟩ | ⟨q1, q2, q3, q4⟩
    · have z4 : ¬ (0 : Int) < (K : Int) := by omega
      have q2h := Lib.hid q2
      clear q1 q2
      go_wp2
      go_meet
      exact ⟨by rw [q2h.out]; rfl, rfl⟩
    · obtain ⟨t, ht⟩ : ∃ t, n.tmod (K : Int) = t := ⟨_, rfl⟩
      rw [ht] at q2 q3
      have z0 : ((K : Int) == 0) = false := by simp; omega
      have z1 : IntKind.i64.wrap t = t := by rw [IntKind.wrap_i64]; omega
      have z2 : IntKind.i64.wrap (t + (K : Int)) = (od : Int) := by rw [IntKind.wrap_i64]; omega
      have z3 : decide (t < 0) = true := by simpa using q2
      have z4 : (0 : Int) < (K : Int) := by omega
      clear q3
      go_wp2
      go_meet
      exact ⟨rfl, rfl⟩
    · obtain ⟨t, ht⟩ : ∃ t, n.tmod (K : Int) = t := ⟨_, rfl⟩
      rw [ht] at q2 q3
      have z0 : ((K : Int) == 0) = false := by simp; omega
      have z1 : IntKind.i64.wrap t = t := by rw [IntKind.wrap_i64]; omega
      have z3 : decide (t < 0) = false := by simpa using q2
      have z4 : (0 : Int) < (K : Int) := by omega
      have q3h := Lib.hid q3
      clear q3
      go_wp2
      go_meet
      exact ⟨by rw [q3h.out], rfl⟩
  case rest =>
    obtain ⟨rfl, rfl⟩ := hcut
    cases bi
    · have hn1 : ¬ m.among at' 1 := fun h => by have := hin.out.2 h; cases this
      have hfin := Lib.hid (show RogM.do ⟨m, imgs⟩ ⟨3, at', tt, n, bb⟩ = (false, ⟨m, imgs⟩) by
        unfold RogM.do
        simp [hn1])
      go_upto_region 33 with (fail)
      refine wp_calm (fun w' => St S w w' [Blk mb (mvCells ⟨3, at', tt, n, bb⟩ x) 40, RrB b b2 (.slice ao K ci), Blk b2 #[.slice (some ⟨gl, 0, none⟩) M cl, vw, .int .i64 m.calls, vc] 67, Row 9 1 (.slice (some ⟨gl, 0, none⟩) M cl) M (texts m.last), Row 103 2 vw m.waits.length (refWaits m.waits), Row 3 1 vc m.reads.length (intCells m.reads), TR (.slice ao K ci) imgs vs, Pile TA vs imgs]) (by kernel_rfl) (by kernel_rfl) (HA.drew) ?_
      iterate 26 first
        | (apply calm_pass
           · rfl
           intro K hK
           go_simp
           refine hK _ ?_
           clear hK K)
        | (apply calm_step
           · rfl
           · intro w1 h1
             first
               | (go_simp
                  first
                    | rfl
                    | exact ⟨rfl, h1⟩
                 )
           intro K hK
           go_simp
           refine hK _ ?_
           clear hK K)
      refine calm_nil ?_
      intro w2 H2
      go_wp2
      go_ret
      rw [hfin.out]
      exact ⟨rfl, (hfold _ H2).pick [2, 0, 3, 4]⟩
    · by_cases h0 : imgs = []
      · have hfin := Lib.hid (show RogM.do ⟨m, imgs⟩ ⟨3, at', tt, n, bb⟩ = (false, ⟨m, imgs⟩) by
          unfold RogM.do
          simp [h0])
        obtain rfl : K = 0 := by rw [← hK, h0]; rfl
        clear h0 hod hodc hao
        go_upto_region 33 with (fail)
        refine wp_calm (fun w' => St S w w' [Blk mb (mvCells ⟨3, at', tt, n, bb⟩ x) 40, RrB b b2 (.slice ao 0 ci), Blk b2 #[.slice (some ⟨gl, 0, none⟩) M cl, vw, .int .i64 m.calls, vc] 67, Row 9 1 (.slice (some ⟨gl, 0, none⟩) M cl) M (texts m.last), Row 103 2 vw m.waits.length (refWaits m.waits), Row 3 1 vc m.reads.length (intCells m.reads), TR (.slice ao 0 ci) imgs vs, Pile TA vs imgs]) (by kernel_rfl) (by kernel_rfl) (HA.drew) ?_
        iterate 26 first
          | (apply calm_pass
             · rfl
             intro K hK
             go_simp
             refine hK _ ?_
             clear hK K)
          | (apply calm_step
             · rfl
             · intro w1 h1
               first
                 | (go_simp
                    first
                      | rfl
                      | exact ⟨rfl, h1⟩
                   )
             intro K hK
             go_simp
             refine hK _ ?_
             clear hK K)
        refine calm_nil ?_
        intro w2 H2
        go_wp2
        go_ret
        rw [hfin.out]
        exact ⟨rfl, (hfold _ H2).pick [2, 0, 3, 4]⟩
      · obtain ⟨p, rfl, hp⟩ := among_one (hin.out.1 rfl)
        have hK0 : 0 < K := by rw [← hK]; exact List.length_pos_iff.2 h0
        have hKz : decide ((0 : Int) < (K : Int)) = true := by simp; omega
        have hKi : (0 : Int) < (K : Int) := by omega
        rw [if_neg h0] at hod
        have hoi := img_at (r := ⟨m, imgs⟩) h0 n
        have hmem := himg _ (img_mem (r := ⟨m, imgs⟩) h0 n)
        have hodK := ix_lt (r := ⟨m, imgs⟩) h0 n
        rw [hod] at hoi hodK
        have hodK : od < K := by rw [← hK]; exact hodK
        obtain ⟨y, hy⟩ : ∃ y, (RogM.mk m imgs).img n = y := ⟨_, rfl⟩
        rw [hy] at hoi hmem
        have hoi : imgs[od]? = some y := hoi
        obtain ⟨hyl, hyf⟩ := hmem
        rw [hM] at hyl hp
        obtain ⟨X, hX⟩ : ∃ X, y[p]? = some X := ⟨_, List.getElem?_eq_getElem (by omega)⟩
        have lX : X.length = 128 := hyf _ (List.mem_of_getElem? hX)
        have hfin := Lib.hid (show RogM.do ⟨m, imgs⟩ ⟨3, p, tt, n, bb⟩ = (true, ⟨m.lays p [X], imgs⟩) by
          unfold RogM.do
          simp [hin.out.1 rfl, h0, hy, RogM.put, hX])
        have ok1 : (m.lay p X).1 = true := lay_ok (by omega) (by omega) lX
        obtain ⟨vk, hvk⟩ : ∃ vk, vs[od]? = some vk := ⟨_, List.getElem?_eq_getElem (by omega)⟩
        obtain ⟨go, oo, rfl⟩ := hao (by omega)
        obtain ⟨S7, h7⟩ := HA.sep.get 7 rfl
        obtain ⟨gk, ck, rfl, hck, _⟩ := pile_cell h7 hvk hoi (by omega)
        have hpi : (p : Int) < (M : Int) := by omega
        have hoi2 : (od : Int) < (K : Int) := by omega
        have ky := Lib.hid (show ∀ (w' : World) (S' : Nat → Prop), (Pile TA vs imgs).on w' S' → w'.cell? ⟨gk, p, none⟩ = some (.string ⟨X.toArray⟩) from fun w' S' h => by
          obtain ⟨g', c', e, _, h'⟩ := pile_cell h hvk hoi (by omega)
          simp only [Value.slice.injEq, Option.some.injEq, Addr.mk.injEq, and_true, true_and] at e
          rw [e.1]
          exact h' p X hX)
        rw [hyl] at hvk hck
        have hvk2 := Lib.hid hvk
        clear hin hto hX hy h0 hodc hao h7 S7 hvk hoi himg hyf hod
        go_upto_region 33 with (fail)
        clear d0 d1 d2 d3 d4 c0 c1 s0
        refine wp_calm_tail 23 (fun w' => St S w w' [Blk mb (mvCells ⟨3, (p : Int), tt, n, bb⟩ x) 40, RrB b b2 (.slice (some ⟨go, oo, none⟩) K ci), Blk b2 #[.slice (some ⟨gl, 0, none⟩) M cl, vw, .int .i64 m.calls, vc] 67, Row 9 1 (.slice (some ⟨gl, 0, none⟩) M cl) M (texts m.last), Row 103 2 vw m.waits.length (refWaits m.waits), Row 3 1 vc m.reads.length (intCells m.reads), TR (.slice (some ⟨go, oo, none⟩) K ci) imgs vs, Pile TA vs imgs]) (by kernel_rfl) (by kernel_rfl) (HA.drew) ?_
        simp only [List.take_succ_cons, List.take_zero, List.drop_succ_cons, List.drop_zero]
        iterate 23 first
          | (apply calm_pass
             · rfl
             intro K hK
             go_simp
             refine hK _ ?_
             clear hK K)
          | (apply calm_step
             · rfl
             · intro w1 h1
               have e0 : w1.cell? ⟨b, 0, none⟩ = some (.pointer (some ⟨b2, 0, none⟩)) := h1.cell 1 0 rfl rfl
               have g0 : w1.cell? ⟨b2, 0, none⟩ = some (.slice (some ⟨gl, 0, none⟩) M cl) := h1.cell 2 0 rfl rfl
               have e1 : w1.cell? ⟨mb, 1, none⟩ = some (.int .i64 (p : Int)) := h1.cell 0 1 rfl rfl
               have e2 : w1.cell? ⟨mb, 2, none⟩ = some (.int .i64 tt) := h1.cell 0 2 rfl rfl
               have e3 : w1.cell? ⟨mb, 3, none⟩ = some (.int .i64 n) := h1.cell 0 3 rfl rfl
               have e4 : w1.cell? ⟨b, 1, none⟩ = some (.slice (some ⟨go, oo, none⟩) K ci) := h1.cell 1 1 rfl rfl
               obtain ⟨S6, h6⟩ := h1.sep.get 6 rfl
               have r1 : w1.cell? ⟨go, oo + od, none⟩ = some (.slice (some ⟨gk, 0, none⟩) M ck) := Off.cell h6 hvk2.out
               obtain ⟨S7, h7⟩ := h1.sep.get 7 rfl
               have r2 : w1.cell? ⟨gk, p, none⟩ = some (.string ⟨X.toArray⟩) := ky.out _ _ h7
               clear h6 h7
               first
                 | (go_simp
                    first
                      | rfl
                      | exact ⟨rfl, h1⟩
                   )
             intro K hK
             go_simp
             refine hK _ ?_
             clear hK K)
        refine calm_nil ?_
        intro w5 H5
        have HF := hfold _ H5
        go_wp2_with (go_at_call 32; go_must (refine (lay_text hgs (by omega) ok1 HF).mono ?_; rintro e w6 ⟨rfl, H6⟩))
        go_ret
        rw [hfin.out]
        exact ⟨rfl, H6.pick [2, 0, 3, 4]⟩

end Go.Proofs.YtaafedpjifaghaaDoor

/- The walk of the reference's rogue: Do, kind 4. Conditions: its blocks lie as its maker lays them. (Printed by gen_rrd.py.) -/
set_option linter.unusedVariables false
set_option linter.unusedSimpArgs false
namespace Go.Proofs.YtaafedpjifaghaaDoor
open Go.RowKit

set_option maxHeartbeats 4000000 in
set_option maxRecDepth 100000 in
theorem ref24_do4 {b b2 : Nat} {iv : Value} {r : RogM} {vs : List Value} (at' tt n : Int) (bb : List UInt8) {x : Value} {w : World} {S : Nat → Prop} (hg : r.Good) (hvs : vs.length = r.imgs.length) (H : Sep w [RrB b b2 iv, RefAt b2 r.s, TR iv r.imgs vs, Pile TA vs r.imgs] S) :
    Calls Tryd.prog 13 #[.pointer (some ⟨b, 0, none⟩), .agg (mvCells ⟨4, at', tt, n, bb⟩ x)] w fun e w' => e = .returned (.bool (r.do ⟨4, at', tt, n, bb⟩).1) ∧ St S w w' [RrB b b2 iv, RefAt b2 (r.do ⟨4, at', tt, n, bb⟩).2.s, TR iv r.imgs vs, Pile TA vs r.imgs] := by
  obtain ⟨m, imgs⟩ := r
  have hroom := hg.room
  have hgs := hg.s
  have hcnt := hg.s.count
  have hif := hg.s.full
  have himg := hg.imgs
  simp only at hroom hcnt hgs hif hvs himg
  obtain ⟨mb, hmb⟩ : ∃ g, w.heap.size = g := ⟨_, rfl⟩
  obtain ⟨S1, hT⟩ := H.get 2 rfl
  obtain ⟨ao, ci, rfl, hci, hao⟩ := Off.shape hT
  obtain ⟨vl, vw, vc, H1⟩ := RefAt.open (St.pick (St.refl H) [1, 0, 2, 3])
  have HA := ((H1.allocAt hmb (mvCells ⟨4, at', tt, n, bb⟩ x) 40).pick [0, 5, 1, 2, 3, 4, 6, 7])
  have HA : St S w (w.alloc (.cells (mvCells ⟨4, at', tt, n, bb⟩ x) 40)) [Blk mb (mvCells ⟨4, at', tt, n, bb⟩ x) 40, RrB b b2 (.slice ao imgs.length ci), Blk b2 #[vl, vw, .int .i64 m.calls, vc] 67, Row 9 1 vl m.last.length (texts m.last), Row 103 2 vw m.waits.length (refWaits m.waits), Row 3 1 vc m.reads.length (intCells m.reads), TR (.slice ao imgs.length ci) imgs vs, Pile TA vs imgs] := HA
  obtain ⟨gl, cl, rfl⟩ := row_form (HA.row 3 rfl) (N := m.last.length) rfl (by omega)
  obtain ⟨K, hK⟩ : ∃ K, imgs.length = K := ⟨_, rfl⟩
  obtain ⟨M, hM⟩ : ∃ M, m.last.length = M := ⟨_, rfl⟩
  have hfold := fun (w' : World) (h : St S w w' [Blk mb (mvCells ⟨4, at', tt, n, bb⟩ x) 40, RrB b b2 (.slice ao K ci), Blk b2 #[.slice (some ⟨gl, 0, none⟩) M cl, vw, .int .i64 m.calls, vc] 67, Row 9 1 (.slice (some ⟨gl, 0, none⟩) M cl) M (texts m.last), Row 103 2 vw m.waits.length (refWaits m.waits), Row 3 1 vc m.reads.length (intCells m.reads), TR (.slice ao K ci) imgs vs, Pile TA vs imgs]) => show St S w w' [RefAt b2 m, Blk mb (mvCells ⟨4, at', tt, n, bb⟩ x) 40, RrB b b2 (.slice ao K ci), TR (.slice ao K ci) imgs vs, Pile TA vs imgs] from RefAt.mk (l := [_, _, _, _]) (vl := .slice (some ⟨gl, 0, none⟩) M cl) (vw := vw) (vc := vc) (by unfold refParts; rw [hM]; exact h.pick [2, 3, 4, 5, 0, 1, 6, 7])
  rw [hK] at HA hroom hvs hci hao
  rw [hM] at HA hcnt
  rw [hK]
  have d0 : (w.alloc (.cells (mvCells ⟨4, at', tt, n, bb⟩ x) 40)).cell? ⟨mb, 0, none⟩ = some (.int .i64 4) := HA.cell 0 0 rfl rfl
  have d1 : (w.alloc (.cells (mvCells ⟨4, at', tt, n, bb⟩ x) 40)).cell? ⟨mb, 1, none⟩ = some (.int .i64 at') := HA.cell 0 1 rfl rfl
  have d2 : (w.alloc (.cells (mvCells ⟨4, at', tt, n, bb⟩ x) 40)).cell? ⟨mb, 2, none⟩ = some (.int .i64 tt) := HA.cell 0 2 rfl rfl
  have d3 : (w.alloc (.cells (mvCells ⟨4, at', tt, n, bb⟩ x) 40)).cell? ⟨mb, 3, none⟩ = some (.int .i64 n) := HA.cell 0 3 rfl rfl
  have d4 : (w.alloc (.cells (mvCells ⟨4, at', tt, n, bb⟩ x) 40)).cell? ⟨mb, 4, none⟩ = some x := HA.cell 0 4 rfl rfl
  have c0 : (w.alloc (.cells (mvCells ⟨4, at', tt, n, bb⟩ x) 40)).cell? ⟨b, 0, none⟩ = some (.pointer (some ⟨b2, 0, none⟩)) := HA.cell 1 0 rfl rfl
  have c1 : (w.alloc (.cells (mvCells ⟨4, at', tt, n, bb⟩ x) 40)).cell? ⟨b, 1, none⟩ = some (.slice ao K ci) := HA.cell 1 1 rfl rfl
  have s0 : (w.alloc (.cells (mvCells ⟨4, at', tt, n, bb⟩ x) 40)).cell? ⟨b2, 0, none⟩ = some (.slice (some ⟨gl, 0, none⟩) M cl) := HA.cell 2 0 rfl rfl
  obtain ⟨bi, hbi⟩ : ∃ bi, (decide (0 ≤ at') && decide (at' < (M : Int))) = bi := ⟨_, rfl⟩
  obtain ⟨bt, hbt⟩ : ∃ bt, (decide (0 ≤ tt) && decide (tt < (M : Int))) = bt := ⟨_, rfl⟩
  have ka := fun w => ref24_among at' M w
  have kb := fun w => ref24_among tt M w
  rw [hbi] at ka
  rw [hbt] at kb
  have hin := Lib.hid (show (bi = true ↔ m.among at' 1) by rw [← hbi]; simp [StM.among, hM]; omega)
  have hto := Lib.hid (show (bt = true ↔ m.among tt 1) by rw [← hbt]; simp [StM.among, hM]; omega)
  obtain ⟨od, hod⟩ : ∃ od : Nat, (if imgs = [] then 0 else (RogM.mk m imgs).ix n) = od := ⟨_, rfl⟩
  have hodc : K = 0 ∧ od = 0 ∨ 0 < K ∧ n.tmod K < 0 ∧ (od : Int) = n.tmod K + K ∧ od < K ∨ 0 < K ∧ 0 ≤ n.tmod K ∧ (od : Int) = n.tmod K ∧ od < K := by
    rw [← hod, ← hK]
    exact old_cases n m imgs
  clear hbi hbt H1 hT S1
  go_enter Tryd.func13, Tryd.ntmps13
  go_upto_if 44 with (go_at_call 31; first | (with_reducible refine (ka _).mono ?_; rintro e w' ⟨rfl, rfl⟩) | (refine (kb _).mono ?_; rintro e w' ⟨rfl, rfl⟩))
  obtain ⟨wa, hwa⟩ : ∃ wa, w.alloc (.cells (mvCells ⟨4, at', tt, n, bb⟩ x) 40) = wa := ⟨_, rfl⟩
  rw [hwa] at HA d0 d1 d2 d3 d4 c0 c1 s0
  rw [hwa]
  clear hwa ka kb
  go_cut [9] from 43 to 53 (fun o wx => o = .int .i64 (od : Int) ∧ wx = wa)
  case first =>
    rcases hodc with ⟨q1, q2⟩ | ⟨q1, q2, q3, q4⟩ | ⟨q1, q2, q3, q4⟩
    · have z4 : ¬ (0 : Int) < (K : Int) := by omega
      have q2h := Lib.hid q2
      clear q1 q2
      go_wp2
      go_meet
      exact ⟨by rw [q2h.out]; rfl, rfl⟩
    · obtain ⟨t, ht⟩ : ∃ t, n.tmod (K : Int) = t := ⟨_, rfl⟩
      rw [ht] at q2 q3
      have z0 : ((K : Int) == 0) = false := by simp; omega
      have z1 : IntKind.i64.wrap t = t := by rw [IntKind.wrap_i64]; omega
      have z2 : IntKind.i64.wrap (t + (K : Int)) = (od : Int) := by rw [IntKind.wrap_i64]; omega
      have z3 : decide (t < 0) = true := by simpa using q2
      have z4 : (0 : Int) < (K : Int) := by omega
      clear q3
      go_wp2
      go_meet
      exact ⟨rfl, rfl⟩
    · obtain ⟨t, ht⟩ : ∃ t, n.tmod (K : Int) = t := ⟨_, rfl⟩
      rw [ht] at q2 q3
      have z0 : ((K : Int) == 0) = false := by simp; omega
      have z1 : IntKind.i64.wrap t = t := by rw [IntKind.wrap_i64]; omega
      have z3 : decide (t < 0) = false := by simpa using q2
      have z4 : (0 : Int) < (K : Int) := by omega
      have q3h := Lib.hid q3
      clear q3
      go_wp2
      go_meet
      exact ⟨by rw [q3h.out], rfl⟩
  case rest =>
    obtain ⟨rfl, rfl⟩ := hcut
    by_cases h0 : imgs = []
    · have hfin := Lib.hid (show RogM.do ⟨m, imgs⟩ ⟨4, at', tt, n, bb⟩ = (false, ⟨m, imgs⟩) by
        unfold RogM.do
        simp [h0])
      obtain rfl : K = 0 := by rw [← hK, h0]; rfl
      clear h0 hod hodc hao
      go_wp2
      go_ret
      rw [hfin.out]
      exact ⟨rfl, (hfold _ HA).pick [2, 0, 3, 4]⟩
    · have hKb : ((K : Int) == 0) = false := by have := List.length_pos_iff.2 h0; simp; omega
      have hK0 : 0 < K := by rw [← hK]; exact List.length_pos_iff.2 h0
      have hKz : decide ((0 : Int) < (K : Int)) = true := by simp; omega
      have hKi : (0 : Int) < (K : Int) := by omega
      rw [if_neg h0] at hod
      have hoi := img_at (r := ⟨m, imgs⟩) h0 n
      have hmem := himg _ (img_mem (r := ⟨m, imgs⟩) h0 n)
      have hodK := ix_lt (r := ⟨m, imgs⟩) h0 n
      rw [hod] at hoi hodK
      have hodK : od < K := by rw [← hK]; exact hodK
      obtain ⟨y, hy⟩ : ∃ y, (RogM.mk m imgs).img n = y := ⟨_, rfl⟩
      rw [hy] at hoi hmem
      have hoi : imgs[od]? = some y := hoi
      obtain ⟨hyl, hyf⟩ := hmem
      rw [hM] at hyl
      have hfl : y.flatten.length = M * 128 := by rw [flat_len hyf, hyl]
      have hfin := Lib.hid (show RogM.do ⟨m, imgs⟩ ⟨4, at', tt, n, bb⟩ = (true, ⟨(m.load y.flatten).2, imgs⟩) by
        unfold RogM.do
        simp [h0, hy, RogM.put])
      have ok1 : (m.load y.flatten).1 = true := by unfold StM.load; rw [if_pos (by omega)]
      obtain ⟨vk, hvk⟩ : ∃ vk, vs[od]? = some vk := ⟨_, List.getElem?_eq_getElem (by omega)⟩
      obtain ⟨go, oo, rfl⟩ := hao (by omega)
      obtain ⟨S7, h7⟩ := HA.sep.get 7 rfl
      obtain ⟨gk, ck, rfl, hck, hky⟩ := pile_cell h7 hvk hoi (by omega)
      have hoi2 : (od : Int) < (K : Int) := by omega
      obtain ⟨S6, h6⟩ := HA.sep.get 6 rfl
      have r1 := Off.cell h6 hvk
      rw [hyl] at r1 hck
      have HF := hfold _ HA
      have hkyh := Lib.hid hky
      have hyfh := Lib.hid hyf
      clear hin hto hy h0 hodc hao h7 S7 h6 S6 hvk hoi himg hyf hod hky HA
      go_upto_block 6 with (fail)
      clear r1 d0 d1 d2 d3 d4 c1 s0
      go_loop [14, 16, 201] (fun a _ j => ∃ i : Nat, i ≤ M ∧ j = .int .i64 i ∧ a = .string ⟨((y.take i).flatten).toArray⟩) (fun _ _ j => M - (intOf j).toNat)
      case atStart => exact ⟨0, by omega, rfl, rfl⟩
      case round =>
        obtain ⟨i, hi, rfl, rfl⟩ := hrel
        by_cases hlt : i < M
        · obtain ⟨X, hX⟩ : ∃ X, y[i]? = some X := ⟨_, List.getElem?_eq_getElem (by omega)⟩
          have r2 := hkyh.out i X hX
          have hiM : (i : Int) < (M : Int) := by omega
          have hcat : (⟨((y.take i).flatten).toArray⟩ : ByteArray) ++ ⟨X.toArray⟩ = ⟨((y.take (i + 1)).flatten).toArray⟩ := by rw [txt_app, take_snoc' hX]; simp
          have hz1 : (⟨((y.take i).flatten).toArray⟩ : ByteArray).size = 128 * i := by rw [text_len, flat_len (fun x hx => hyfh.out x (List.mem_of_mem_take hx)), List.length_take, Nat.min_eq_left (by omega), Nat.mul_comm]
          have hz2 : (⟨X.toArray⟩ : ByteArray).size = 128 := by rw [text_len]; exact hyfh.out X (List.mem_of_getElem? hX)
          have hM2 := hcnt.2
          clear hX
          go_wp2
          go_round
          case rel => exact ⟨i + 1, by omega, by go_num, rfl⟩
          case measure => simp [intOf]; omega
        · obtain rfl : i = M := by omega
          have e : y.take i = y := List.take_of_length_le (by omega)
          rw [e]
          clear e
          go_wp2_with (go_at_call 34; go_must (refine (load_text hgs (by omega) ok1 HF).mono ?_; rintro e w6 ⟨rfl, H6⟩))
          go_ret
          rw [hfin.out]
          exact ⟨rfl, H6.pick [2, 0, 3, 4]⟩

end Go.Proofs.YtaafedpjifaghaaDoor

/- The walk of the reference's rogue: Do, kind 5. Conditions: its blocks lie as its maker lays them. (Printed by gen_rrd.py.) -/
set_option linter.unusedVariables false
set_option linter.unusedSimpArgs false
namespace Go.Proofs.YtaafedpjifaghaaDoor
open Go.RowKit

set_option maxHeartbeats 4000000 in
set_option maxRecDepth 100000 in
theorem ref24_do5 {b b2 : Nat} {iv : Value} {r : RogM} {vs : List Value} (at' tt n : Int) (bb : List UInt8) {x : Value} {w : World} {S : Nat → Prop} (hg : r.Good) (hvs : vs.length = r.imgs.length) (H : Sep w [RrB b b2 iv, RefAt b2 r.s, TR iv r.imgs vs, Pile TA vs r.imgs] S) :
    Calls Tryd.prog 13 #[.pointer (some ⟨b, 0, none⟩), .agg (mvCells ⟨5, at', tt, n, bb⟩ x)] w fun e w' => e = .returned (.bool (r.do ⟨5, at', tt, n, bb⟩).1) ∧ St S w w' [RrB b b2 iv, RefAt b2 (r.do ⟨5, at', tt, n, bb⟩).2.s, TR iv r.imgs vs, Pile TA vs r.imgs] := by
  obtain ⟨m, imgs⟩ := r
  have hroom := hg.room
  have hgs := hg.s
  have hcnt := hg.s.count
  have hif := hg.s.full
  have himg := hg.imgs
  simp only at hroom hcnt hgs hif hvs himg
  obtain ⟨mb, hmb⟩ : ∃ g, w.heap.size = g := ⟨_, rfl⟩
  obtain ⟨S1, hT⟩ := H.get 2 rfl
  obtain ⟨ao, ci, rfl, hci, hao⟩ := Off.shape hT
  obtain ⟨vl, vw, vc, H1⟩ := RefAt.open (St.pick (St.refl H) [1, 0, 2, 3])
  have HA := ((H1.allocAt hmb (mvCells ⟨5, at', tt, n, bb⟩ x) 40).pick [0, 5, 1, 2, 3, 4, 6, 7])
  have HA : St S w (w.alloc (.cells (mvCells ⟨5, at', tt, n, bb⟩ x) 40)) [Blk mb (mvCells ⟨5, at', tt, n, bb⟩ x) 40, RrB b b2 (.slice ao imgs.length ci), Blk b2 #[vl, vw, .int .i64 m.calls, vc] 67, Row 9 1 vl m.last.length (texts m.last), Row 103 2 vw m.waits.length (refWaits m.waits), Row 3 1 vc m.reads.length (intCells m.reads), TR (.slice ao imgs.length ci) imgs vs, Pile TA vs imgs] := HA
  obtain ⟨gl, cl, rfl⟩ := row_form (HA.row 3 rfl) (N := m.last.length) rfl (by omega)
  obtain ⟨K, hK⟩ : ∃ K, imgs.length = K := ⟨_, rfl⟩
  obtain ⟨M, hM⟩ : ∃ M, m.last.length = M := ⟨_, rfl⟩
  have hfold := fun (w' : World) (h : St S w w' [Blk mb (mvCells ⟨5, at', tt, n, bb⟩ x) 40, RrB b b2 (.slice ao K ci), Blk b2 #[.slice (some ⟨gl, 0, none⟩) M cl, vw, .int .i64 m.calls, vc] 67, Row 9 1 (.slice (some ⟨gl, 0, none⟩) M cl) M (texts m.last), Row 103 2 vw m.waits.length (refWaits m.waits), Row 3 1 vc m.reads.length (intCells m.reads), TR (.slice ao K ci) imgs vs, Pile TA vs imgs]) => show St S w w' [RefAt b2 m, Blk mb (mvCells ⟨5, at', tt, n, bb⟩ x) 40, RrB b b2 (.slice ao K ci), TR (.slice ao K ci) imgs vs, Pile TA vs imgs] from RefAt.mk (l := [_, _, _, _]) (vl := .slice (some ⟨gl, 0, none⟩) M cl) (vw := vw) (vc := vc) (by unfold refParts; rw [hM]; exact h.pick [2, 3, 4, 5, 0, 1, 6, 7])
  rw [hK] at HA hroom hvs hci hao
  rw [hM] at HA hcnt
  rw [hK]
  have d0 : (w.alloc (.cells (mvCells ⟨5, at', tt, n, bb⟩ x) 40)).cell? ⟨mb, 0, none⟩ = some (.int .i64 5) := HA.cell 0 0 rfl rfl
  have d1 : (w.alloc (.cells (mvCells ⟨5, at', tt, n, bb⟩ x) 40)).cell? ⟨mb, 1, none⟩ = some (.int .i64 at') := HA.cell 0 1 rfl rfl
  have d2 : (w.alloc (.cells (mvCells ⟨5, at', tt, n, bb⟩ x) 40)).cell? ⟨mb, 2, none⟩ = some (.int .i64 tt) := HA.cell 0 2 rfl rfl
  have d3 : (w.alloc (.cells (mvCells ⟨5, at', tt, n, bb⟩ x) 40)).cell? ⟨mb, 3, none⟩ = some (.int .i64 n) := HA.cell 0 3 rfl rfl
  have d4 : (w.alloc (.cells (mvCells ⟨5, at', tt, n, bb⟩ x) 40)).cell? ⟨mb, 4, none⟩ = some x := HA.cell 0 4 rfl rfl
  have c0 : (w.alloc (.cells (mvCells ⟨5, at', tt, n, bb⟩ x) 40)).cell? ⟨b, 0, none⟩ = some (.pointer (some ⟨b2, 0, none⟩)) := HA.cell 1 0 rfl rfl
  have c1 : (w.alloc (.cells (mvCells ⟨5, at', tt, n, bb⟩ x) 40)).cell? ⟨b, 1, none⟩ = some (.slice ao K ci) := HA.cell 1 1 rfl rfl
  have s0 : (w.alloc (.cells (mvCells ⟨5, at', tt, n, bb⟩ x) 40)).cell? ⟨b2, 0, none⟩ = some (.slice (some ⟨gl, 0, none⟩) M cl) := HA.cell 2 0 rfl rfl
  obtain ⟨bi, hbi⟩ : ∃ bi, (decide (0 ≤ at') && decide (at' < (M : Int))) = bi := ⟨_, rfl⟩
  obtain ⟨bt, hbt⟩ : ∃ bt, (decide (0 ≤ tt) && decide (tt < (M : Int))) = bt := ⟨_, rfl⟩
  have ka := fun w => ref24_among at' M w
  have kb := fun w => ref24_among tt M w
  rw [hbi] at ka
  rw [hbt] at kb
  have hin := Lib.hid (show (bi = true ↔ m.among at' 1) by rw [← hbi]; simp [StM.among, hM]; omega)
  have hto := Lib.hid (show (bt = true ↔ m.among tt 1) by rw [← hbt]; simp [StM.among, hM]; omega)
  obtain ⟨od, hod⟩ : ∃ od : Nat, (if imgs = [] then 0 else (RogM.mk m imgs).ix n) = od := ⟨_, rfl⟩
  have hodc : K = 0 ∧ od = 0 ∨ 0 < K ∧ n.tmod K < 0 ∧ (od : Int) = n.tmod K + K ∧ od < K ∨ 0 < K ∧ 0 ≤ n.tmod K ∧ (od : Int) = n.tmod K ∧ od < K := by
    rw [← hod, ← hK]
    exact old_cases n m imgs
  clear hbi hbt H1 hT S1
  go_enter Tryd.func13, Tryd.ntmps13
  go_upto_if 44 with (go_at_call 31; first | (with_reducible refine (ka _).mono ?_; rintro e w' ⟨rfl, rfl⟩) | (refine (kb _).mono ?_; rintro e w' ⟨rfl, rfl⟩))
  obtain ⟨wa, hwa⟩ : ∃ wa, w.alloc (.cells (mvCells ⟨5, at', tt, n, bb⟩ x) 40) = wa := ⟨_, rfl⟩
  rw [hwa] at HA d0 d1 d2 d3 d4 c0 c1 s0
  rw [hwa]
  clear hwa ka kb
  go_cut [9] from 43 to 53 (fun o wx => o = .int .i64 (od : Int) ∧ wx = wa)
  case first =>
    rcases hodc with ⟨q1, q2⟩ | ⟨q1, q2, q3, q4⟩ | ⟨q1, q2, q3, q4⟩
    · have z4 : ¬ (0 : Int) < (K : Int) := by omega
      have q2h := Lib.hid q2
      clear q1 q2
      go_wp2
      go_meet
      exact ⟨by rw [q2h.out]; rfl, rfl⟩
    · obtain ⟨t, ht⟩ : ∃ t, n.tmod (K : Int) = t := ⟨_, rfl⟩
      rw [ht] at q2 q3
      have z0 : ((K : Int) == 0) = false := by simp; omega
      have z1 : IntKind.i64.wrap t = t := by rw [IntKind.wrap_i64]; omega
      have z2 : IntKind.i64.wrap (t + (K : Int)) = (od : Int) := by rw [IntKind.wrap_i64]; omega
      have z3 : decide (t < 0) = true := by simpa using q2
      have z4 : (0 : Int) < (K : Int) := by omega
      clear q3
      go_wp2
      go_meet
      exact ⟨rfl, rfl⟩
    · obtain ⟨t, ht⟩ : ∃ t, n.tmod (K : Int) = t := ⟨_, rfl⟩
      rw [ht] at q2 q3
      have z0 : ((K : Int) == 0) = false := by simp; omega
      have z1 : IntKind.i64.wrap t = t := by rw [IntKind.wrap_i64]; omega
      have z3 : decide (t < 0) = false := by simpa using q2
      have z4 : (0 : Int) < (K : Int) := by omega
      have q3h := Lib.hid q3
      clear q3
      go_wp2
      go_meet
      exact ⟨by rw [q3h.out], rfl⟩
  case rest =>
    obtain ⟨rfl, rfl⟩ := hcut
    cases bi
    · have hn1 : ¬ m.among at' 1 := fun h => by have := hin.out.2 h; cases this
      have hfin := Lib.hid (show RogM.do ⟨m, imgs⟩ ⟨5, at', tt, n, bb⟩ = (false, ⟨m, imgs⟩) by
        unfold RogM.do
        simp [hn1])
      go_wp2
      go_ret
      rw [hfin.out]
      exact ⟨rfl, (hfold _ HA).pick [2, 0, 3, 4]⟩
    · obtain ⟨p, rfl, hp⟩ := among_one (hin.out.1 rfl)
      by_cases h2 : n < 0
      · have hd5 : decide (n < 0) = true := by simpa using h2
        have hfin := Lib.hid (show RogM.do ⟨m, imgs⟩ ⟨5, p, tt, n, bb⟩ = (false, ⟨m, imgs⟩) by
          unfold RogM.do
          simp [show ¬ 0 ≤ n by omega])
        go_wp2
        go_ret
        rw [hfin.out]
        exact ⟨rfl, (hfold _ HA).pick [2, 0, 3, 4]⟩
      · have hd5 : decide (n < 0) = false := by simpa using h2
        by_cases h3 : 1023 < n
        · have hd6 : decide (1023 < n) = true := by simpa using h3
          have hfin := Lib.hid (show RogM.do ⟨m, imgs⟩ ⟨5, p, tt, n, bb⟩ = (false, ⟨m, imgs⟩) by
            unfold RogM.do
            simp [show ¬ n ≤ 1023 by omega])
          go_wp2
          go_ret
          rw [hfin.out]
          exact ⟨rfl, (hfold _ HA).pick [2, 0, 3, 4]⟩
        · have hd6 : decide (1023 < n) = false := by simpa using h3
          obtain ⟨k, rfl⟩ := Int.eq_ofNat_of_zero_le (show 0 ≤ n by omega)
          have hk : k < 1024 := by omega
          have hfin := Lib.hid (show RogM.do ⟨m, imgs⟩ ⟨5, p, tt, k, bb⟩ = (true, ⟨m.lays p [turnBit (m.blk p) k], imgs⟩) by
            unfold RogM.do
            simp [hin.out.1 rfl, show (k : Int) ≤ 1023 by omega, RogM.put])
          have xp : m.last[p]? = some (m.blk p) := mblk_at hp
          have lp : (m.blk p).length = 128 := hif _ (List.mem_of_getElem? xp)
          obtain ⟨X, hX⟩ : ∃ X, m.blk p = X := ⟨_, rfl⟩
          rw [hX] at xp lp hfin
          obtain ⟨x0, hx0, hturn⟩ := turned_run lp hk
          have ok1 : (m.lay p (turnBit X k)).1 = true := lay_ok (by omega) (by omega) (by rw [turn_len, lp])
          have lt1 : (turnBit X k).length ≤ 9223372036854775807 := by rw [turn_len, lp]; omega
          rw [hM] at hp
          have hpi : (p : Int) < (M : Int) := by omega
          have q1 : (k : Int).tdiv 8 = ((k / 8 : Nat) : Int) := by rw [Int.tdiv_eq_ediv_of_nonneg (by omega)]; rfl
          have q2 : (k : Int).tmod 8 = ((k % 8 : Nat) : Int) := by rw [Int.tmod_eq_emod_of_nonneg (by omega)]; rfl
          have hc8 : k / 8 < 128 := by omega
          have hb8 : k % 8 < 8 := Nat.mod_lt _ (by omega)
          obtain ⟨c, hc⟩ : ∃ c, k / 8 = c := ⟨_, rfl⟩
          obtain ⟨r8, hr8⟩ : ∃ r8, k % 8 = r8 := ⟨_, rfl⟩
          rw [hc] at q1 hc8 hx0 hturn
          rw [hr8] at q2 hb8 hturn
          have hturnh := Lib.hid hturn
          have hx0h := Lib.hid hx0
          clear hin hto hX hodc h2 h3 hc hr8 hturn hx0
          go_upto_region 47 with (fail)
          clear d0 d1 d2 d3 d4 c0 c1 s0
          refine wp_calm_tail 11 (fun w' => St S w w' [Blk mb (mvCells ⟨5, (p : Int), tt, (k : Int), bb⟩ x) 40, RrB b b2 (.slice ao K ci), Blk b2 #[.slice (some ⟨gl, 0, none⟩) M cl, vw, .int .i64 m.calls, vc] 67, Row 9 1 (.slice (some ⟨gl, 0, none⟩) M cl) M (texts m.last), Row 103 2 vw m.waits.length (refWaits m.waits), Row 3 1 vc m.reads.length (intCells m.reads), TR (.slice ao K ci) imgs vs, Pile TA vs imgs]) (by kernel_rfl) (by kernel_rfl) (HA.drew) ?_
          simp only [List.take_succ_cons, List.take_zero, List.drop_succ_cons, List.drop_zero]
          iterate 11 first
            | (apply calm_pass
               · rfl
               intro K hK
               go_simp
               refine hK _ ?_
               clear hK K)
            | (apply calm_step
               · rfl
               · intro w1 h1
                 have e0 : w1.cell? ⟨b, 0, none⟩ = some (.pointer (some ⟨b2, 0, none⟩)) := h1.cell 1 0 rfl rfl
                 have g0 : w1.cell? ⟨b2, 0, none⟩ = some (.slice (some ⟨gl, 0, none⟩) M cl) := h1.cell 2 0 rfl rfl
                 have e1 : w1.cell? ⟨mb, 1, none⟩ = some (.int .i64 (p : Int)) := h1.cell 0 1 rfl rfl
                 have e2 : w1.cell? ⟨mb, 2, none⟩ = some (.int .i64 tt) := h1.cell 0 2 rfl rfl
                 have e3 : w1.cell? ⟨mb, 3, none⟩ = some (.int .i64 (k : Int)) := h1.cell 0 3 rfl rfl
                 have r1 : w1.cell? ⟨gl, p, none⟩ = some (.string ⟨X.toArray⟩) := by have := h1.rowCell 3 p rfl (texts_at xp); unfold textV at this; exact this
                 first
                   | (go_simp
                      first
                        | rfl
                        | exact ⟨rfl, h1⟩
                     )
               intro K hK
               go_simp
               refine hK _ ?_
               clear hK K)
          refine calm_nil ?_
          intro w5 H5
          obtain ⟨cc, w6, hcv, H6⟩ := conv_new (hfold _ H5) X
          obtain ⟨ga, hga⟩ : ∃ g, w5.heap.size = g := ⟨_, rfl⟩
          rw [hga] at hcv H6
          rw [lp] at hcv H6
          have H6 : St S w w6 [Conv (.slice (some ⟨ga, 0, none⟩) 128 cc) X, RefAt b2 m, Blk mb (mvCells ⟨5, (p : Int), tt, (k : Int), bb⟩ x) 40, RrB b b2 (.slice ao K ci), TR (.slice ao K ci) imgs vs, Pile TA vs imgs] := H6
          have d3 : w6.cell? ⟨mb, 3, none⟩ = some (.int .i64 k) := H6.cell 2 3 rfl rfl
          go_upto_block 8 with (fail)
          clear hcv H5 hga
          go_loop [18, 19] (fun bq j => ∃ (i q : Nat), i ≤ r8 ∧ j = .int .i64 i ∧ bq = .int .u8 q ∧ Hid (q = 2 ^ i)) (fun _ j => r8 - (intOf j).toNat)
          case atStart => exact ⟨0, 1, by omega, rfl, rfl, Lib.hid rfl⟩
          case round =>
            obtain ⟨i, q, hi, rfl, rfl, hq⟩ := hrel
            by_cases hlt : i < r8
            · have hq64 : q ≤ 64 := by
                rw [hq.out]
                exact Nat.pow_le_pow_right (n := 2) (by omega) (show i ≤ 6 by omega)
              have e1 : ((q : Int) * 2) % 256 = ((q * 2 : Nat) : Int) := by omega
              have e2 : IntKind.u8.wrap ((q : Int) * 2) = ((q * 2 : Nat) : Int) := by simp [IntKind.wrap, IntKind.bits, IntKind.signed]; omega
              go_wp2
              go_round
              case rel => exact ⟨i + 1, q * 2, by omega, by go_num, by go_num, Lib.hid (by rw [hq.out, Nat.pow_succ])⟩
              case measure => simp [intOf]; omega
            · obtain rfl : i = r8 := by omega
              have hcl : c < X.length := by omega
              obtain ⟨g1, g2, g3⟩ := St.convSet H6 c hcl (x0 ^^^ UInt8.ofNat (2 ^ i))
              have hxc : X[c] = x0 := (List.getElem?_eq_some_iff.1 hx0h.out).2
              rw [hxc] at g1
              have hq2 : (q : Int) = 2 ^ i % 256 := by
                rw [hq.out]
                have : 2 ^ i ≤ 128 := Nat.pow_le_pow_right (n := 2) (by omega) (show i ≤ 7 by omega)
                rw [Int.emod_eq_of_lt (by have := Nat.pos_of_ne_zero (show 2 ^ i ≠ 0 by simp); exact_mod_cast (Nat.zero_le _)) (by exact_mod_cast (by omega : 2 ^ i < 256))]
                simp
              have hxor : bits BinOp.xor IntKind.u8 (x0.toNat : Int) (q : Int) = (((x0 ^^^ UInt8.ofNat (2 ^ i)).toNat : Nat) : Int) := by rw [hq2]; exact xor_bit x0 i
              rw [← hturnh.out] at g3
              obtain ⟨z, hz⟩ : ∃ z, x0 ^^^ UInt8.ofNat (2 ^ i) = z := ⟨_, rfl⟩
              rw [hz] at hxor g3
              unfold bv at g1 g3
              have hci : (c : Int) < 128 := by omega
              clear hq2 hxc hcl hz H6
              go_upto_region 54 with (fail)
              obtain ⟨w7, hw7⟩ : ∃ w7, w6.setCell ⟨ga, c, none⟩ (.int .u8 (z.toNat : Nat)) = w7 := ⟨_, rfl⟩
              rw [hw7] at g3
              rw [hw7]
              clear hw7 g1 g2 d3 hxor
              refine wp_calm_tail 8 (fun w' => St S w w' [Conv (.slice (some ⟨ga, 0, none⟩) 128 cc) (turnBit X k), RefAt b2 m, Blk mb (mvCells ⟨5, (p : Int), tt, (k : Int), bb⟩ x) 40, RrB b b2 (.slice ao K ci), TR (.slice ao K ci) imgs vs, Pile TA vs imgs]) (by kernel_rfl) (by kernel_rfl) (g3.drew) ?_
              simp only [List.take_succ_cons, List.take_zero, List.drop_succ_cons, List.drop_zero]
              iterate 8 first
                | (apply calm_pass
                   · rfl
                   intro K hK
                   go_simp
                   refine hK _ ?_
                   clear hK K)
                | (apply calm_step
                   · rfl
                   · intro w1 h1
                     have e0 : w1.cell? ⟨b, 0, none⟩ = some (.pointer (some ⟨b2, 0, none⟩)) := h1.cell 3 0 rfl rfl
                     have e1 : w1.cell? ⟨mb, 1, none⟩ = some (.int .i64 p) := h1.cell 2 1 rfl rfl
                     obtain ⟨S8, h8⟩ := h1.sep.get 0 rfl
                     have hcv := Conv.text h8
                     clear h8
                     first
                       | (go_simp
                          first
                            | rfl
                            | exact ⟨rfl, h1⟩
                         )
                   intro K hK
                   go_simp
                   refine hK _ ?_
                   clear hK K)
              refine calm_nil ?_
              intro w8 H8
              have H9 : St S w w8 [RefAt b2 m, Blk mb (mvCells ⟨5, (p : Int), tt, (k : Int), bb⟩ x) 40, RrB b b2 (.slice ao K ci), TR (.slice ao K ci) imgs vs, Pile TA vs imgs] := H8.tail
              go_wp2_with (go_at_call 32; go_must (refine (lay_text hgs lt1 ok1 H9).mono ?_; rintro e w9 ⟨rfl, H10⟩))
              go_ret
              rw [hfin.out]
              exact ⟨rfl, H10.pick [2, 0, 3, 4]⟩

end Go.Proofs.YtaafedpjifaghaaDoor

/- The walk of the reference's rogue: Do, kind 6. Conditions: its blocks lie as its maker lays them. (Printed by gen_rrd.py.) -/
set_option linter.unusedVariables false
set_option linter.unusedSimpArgs false
namespace Go.Proofs.YtaafedpjifaghaaDoor
open Go.RowKit

set_option maxHeartbeats 4000000 in
set_option maxRecDepth 100000 in
theorem ref24_do6 {b b2 : Nat} {iv : Value} {r : RogM} {vs : List Value} (at' tt n : Int) (bb : List UInt8) {x : Value} {w : World} {S : Nat → Prop} (hg : r.Good) (hvs : vs.length = r.imgs.length) (H : Sep w [RrB b b2 iv, RefAt b2 r.s, TR iv r.imgs vs, Pile TA vs r.imgs] S) :
    Calls Tryd.prog 13 #[.pointer (some ⟨b, 0, none⟩), .agg (mvCells ⟨6, at', tt, n, bb⟩ x)] w fun e w' => e = .returned (.bool (r.do ⟨6, at', tt, n, bb⟩).1) ∧ St S w w' [RrB b b2 iv, RefAt b2 (r.do ⟨6, at', tt, n, bb⟩).2.s, TR iv r.imgs vs, Pile TA vs r.imgs] := by
  obtain ⟨m, imgs⟩ := r
  have hroom := hg.room
  have hgs := hg.s
  have hcnt := hg.s.count
  have hif := hg.s.full
  have himg := hg.imgs
  simp only at hroom hcnt hgs hif hvs himg
  obtain ⟨mb, hmb⟩ : ∃ g, w.heap.size = g := ⟨_, rfl⟩
  obtain ⟨S1, hT⟩ := H.get 2 rfl
  obtain ⟨ao, ci, rfl, hci, hao⟩ := Off.shape hT
  obtain ⟨vl, vw, vc, H1⟩ := RefAt.open (St.pick (St.refl H) [1, 0, 2, 3])
  have HA := ((H1.allocAt hmb (mvCells ⟨6, at', tt, n, bb⟩ x) 40).pick [0, 5, 1, 2, 3, 4, 6, 7])
  have HA : St S w (w.alloc (.cells (mvCells ⟨6, at', tt, n, bb⟩ x) 40)) [Blk mb (mvCells ⟨6, at', tt, n, bb⟩ x) 40, RrB b b2 (.slice ao imgs.length ci), Blk b2 #[vl, vw, .int .i64 m.calls, vc] 67, Row 9 1 vl m.last.length (texts m.last), Row 103 2 vw m.waits.length (refWaits m.waits), Row 3 1 vc m.reads.length (intCells m.reads), TR (.slice ao imgs.length ci) imgs vs, Pile TA vs imgs] := HA
  obtain ⟨gl, cl, rfl⟩ := row_form (HA.row 3 rfl) (N := m.last.length) rfl (by omega)
  obtain ⟨K, hK⟩ : ∃ K, imgs.length = K := ⟨_, rfl⟩
  obtain ⟨M, hM⟩ : ∃ M, m.last.length = M := ⟨_, rfl⟩
  have hfold := fun (w' : World) (h : St S w w' [Blk mb (mvCells ⟨6, at', tt, n, bb⟩ x) 40, RrB b b2 (.slice ao K ci), Blk b2 #[.slice (some ⟨gl, 0, none⟩) M cl, vw, .int .i64 m.calls, vc] 67, Row 9 1 (.slice (some ⟨gl, 0, none⟩) M cl) M (texts m.last), Row 103 2 vw m.waits.length (refWaits m.waits), Row 3 1 vc m.reads.length (intCells m.reads), TR (.slice ao K ci) imgs vs, Pile TA vs imgs]) => show St S w w' [RefAt b2 m, Blk mb (mvCells ⟨6, at', tt, n, bb⟩ x) 40, RrB b b2 (.slice ao K ci), TR (.slice ao K ci) imgs vs, Pile TA vs imgs] from RefAt.mk (l := [_, _, _, _]) (vl := .slice (some ⟨gl, 0, none⟩) M cl) (vw := vw) (vc := vc) (by unfold refParts; rw [hM]; exact h.pick [2, 3, 4, 5, 0, 1, 6, 7])
  rw [hK] at HA hroom hvs hci hao
  rw [hM] at HA hcnt
  rw [hK]
  have d0 : (w.alloc (.cells (mvCells ⟨6, at', tt, n, bb⟩ x) 40)).cell? ⟨mb, 0, none⟩ = some (.int .i64 6) := HA.cell 0 0 rfl rfl
  have d1 : (w.alloc (.cells (mvCells ⟨6, at', tt, n, bb⟩ x) 40)).cell? ⟨mb, 1, none⟩ = some (.int .i64 at') := HA.cell 0 1 rfl rfl
  have d2 : (w.alloc (.cells (mvCells ⟨6, at', tt, n, bb⟩ x) 40)).cell? ⟨mb, 2, none⟩ = some (.int .i64 tt) := HA.cell 0 2 rfl rfl
  have d3 : (w.alloc (.cells (mvCells ⟨6, at', tt, n, bb⟩ x) 40)).cell? ⟨mb, 3, none⟩ = some (.int .i64 n) := HA.cell 0 3 rfl rfl
  have d4 : (w.alloc (.cells (mvCells ⟨6, at', tt, n, bb⟩ x) 40)).cell? ⟨mb, 4, none⟩ = some x := HA.cell 0 4 rfl rfl
  have c0 : (w.alloc (.cells (mvCells ⟨6, at', tt, n, bb⟩ x) 40)).cell? ⟨b, 0, none⟩ = some (.pointer (some ⟨b2, 0, none⟩)) := HA.cell 1 0 rfl rfl
  have c1 : (w.alloc (.cells (mvCells ⟨6, at', tt, n, bb⟩ x) 40)).cell? ⟨b, 1, none⟩ = some (.slice ao K ci) := HA.cell 1 1 rfl rfl
  have s0 : (w.alloc (.cells (mvCells ⟨6, at', tt, n, bb⟩ x) 40)).cell? ⟨b2, 0, none⟩ = some (.slice (some ⟨gl, 0, none⟩) M cl) := HA.cell 2 0 rfl rfl
  obtain ⟨bi, hbi⟩ : ∃ bi, (decide (0 ≤ at') && decide (at' < (M : Int))) = bi := ⟨_, rfl⟩
  obtain ⟨bt, hbt⟩ : ∃ bt, (decide (0 ≤ tt) && decide (tt < (M : Int))) = bt := ⟨_, rfl⟩
  have ka := fun w => ref24_among at' M w
  have kb := fun w => ref24_among tt M w
  rw [hbi] at ka
  rw [hbt] at kb
  have hin := Lib.hid (show (bi = true ↔ m.among at' 1) by rw [← hbi]; simp [StM.among, hM]; omega)
  have hto := Lib.hid (show (bt = true ↔ m.among tt 1) by rw [← hbt]; simp [StM.among, hM]; omega)
  obtain ⟨od, hod⟩ : ∃ od : Nat, (if imgs = [] then 0 else (RogM.mk m imgs).ix n) = od := ⟨_, rfl⟩
  have hodc : K = 0 ∧ od = 0 ∨ 0 < K ∧ n.tmod K < 0 ∧ (od : Int) = n.tmod K + K ∧ od < K ∨ 0 < K ∧ 0 ≤ n.tmod K ∧ (od : Int) = n.tmod K ∧ od < K := by
    rw [← hod, ← hK]
    exact old_cases n m imgs
  clear hbi hbt H1 hT S1
  go_enter Tryd.func13, Tryd.ntmps13
  go_upto_if 44 with (go_at_call 31; first | (with_reducible refine (ka _).mono ?_; rintro e w' ⟨rfl, rfl⟩) | (refine (kb _).mono ?_; rintro e w' ⟨rfl, rfl⟩))
  obtain ⟨wa, hwa⟩ : ∃ wa, w.alloc (.cells (mvCells ⟨6, at', tt, n, bb⟩ x) 40) = wa := ⟨_, rfl⟩
  rw [hwa] at HA d0 d1 d2 d3 d4 c0 c1 s0
  rw [hwa]
  clear hwa ka kb
  go_cut [9] from 43 to 53 (fun o wx => o = .int .i64 (od : Int) ∧ wx = wa)
  case first =>
    rcases hodc with ⟨q1, q2⟩ | ⟨q1, q2, q3, q4⟩ | ⟨q1, q2, q3, q4⟩
    · have z4 : ¬ (0 : Int) < (K : Int) := by omega
      have q2h := Lib.hid q2
      clear q1 q2
      go_wp2
      go_meet
      exact ⟨by rw [q2h.out]; rfl, rfl⟩
    · obtain ⟨t, ht⟩ : ∃ t, n.tmod (K : Int) = t := ⟨_, rfl⟩
      rw [ht] at q2 q3
      have z0 : ((K : Int) == 0) = false := by simp; omega
      have z1 : IntKind.i64.wrap t = t := by rw [IntKind.wrap_i64]; omega
      have z2 : IntKind.i64.wrap (t + (K : Int)) = (od : Int) := by rw [IntKind.wrap_i64]; omega
      have z3 : decide (t < 0) = true := by simpa using q2
      have z4 : (0 : Int) < (K : Int) := by omega
      clear q3
      go_wp2
      go_meet
      exact ⟨rfl, rfl⟩
    · obtain ⟨t, ht⟩ : ∃ t, n.tmod (K : Int) = t := ⟨_, rfl⟩
      rw [ht] at q2 q3
      have z0 : ((K : Int) == 0) = false := by simp; omega
      have z1 : IntKind.i64.wrap t = t := by rw [IntKind.wrap_i64]; omega
      have z3 : decide (t < 0) = false := by simpa using q2
      have z4 : (0 : Int) < (K : Int) := by omega
      have q3h := Lib.hid q3
      clear q3
      go_wp2
      go_meet
      exact ⟨by rw [q3h.out], rfl⟩
  case rest =>
    obtain ⟨rfl, rfl⟩ := hcut
    cases bi
    · have hn1 : ¬ m.among at' 1 := fun h => by have := hin.out.2 h; cases this
      have hfin := Lib.hid (show RogM.do ⟨m, imgs⟩ ⟨6, at', tt, n, bb⟩ = (false, ⟨m, imgs⟩) by
        unfold RogM.do
        simp [hn1])
      go_upto_region 56 with (fail)
      refine wp_calm (fun w' => St S w w' [Blk mb (mvCells ⟨6, at', tt, n, bb⟩ x) 40, RrB b b2 (.slice ao K ci), Blk b2 #[.slice (some ⟨gl, 0, none⟩) M cl, vw, .int .i64 m.calls, vc] 67, Row 9 1 (.slice (some ⟨gl, 0, none⟩) M cl) M (texts m.last), Row 103 2 vw m.waits.length (refWaits m.waits), Row 3 1 vc m.reads.length (intCells m.reads), TR (.slice ao K ci) imgs vs, Pile TA vs imgs]) (by kernel_rfl) (by kernel_rfl) (HA.drew) ?_
      iterate 25 first
        | (apply calm_pass
           · rfl
           intro K hK
           go_simp
           refine hK _ ?_
           clear hK K)
        | (apply calm_step
           · rfl
           · intro w1 h1
             first
               | (go_simp
                  first
                    | rfl
                    | exact ⟨rfl, h1⟩
                 )
           intro K hK
           go_simp
           refine hK _ ?_
           clear hK K)
      refine calm_nil ?_
      intro w2 H2
      go_wp2
      go_ret
      rw [hfin.out]
      exact ⟨rfl, (hfold _ H2).pick [2, 0, 3, 4]⟩
    · cases bt
      · have hn1 : ¬ m.among tt 1 := fun h => by have := hto.out.2 h; cases this
        have hfin := Lib.hid (show RogM.do ⟨m, imgs⟩ ⟨6, at', tt, n, bb⟩ = (false, ⟨m, imgs⟩) by
          unfold RogM.do
          simp [hn1])
        go_upto_region 56 with (fail)
        refine wp_calm (fun w' => St S w w' [Blk mb (mvCells ⟨6, at', tt, n, bb⟩ x) 40, RrB b b2 (.slice ao K ci), Blk b2 #[.slice (some ⟨gl, 0, none⟩) M cl, vw, .int .i64 m.calls, vc] 67, Row 9 1 (.slice (some ⟨gl, 0, none⟩) M cl) M (texts m.last), Row 103 2 vw m.waits.length (refWaits m.waits), Row 3 1 vc m.reads.length (intCells m.reads), TR (.slice ao K ci) imgs vs, Pile TA vs imgs]) (by kernel_rfl) (by kernel_rfl) (HA.drew) ?_
        iterate 25 first
          | (apply calm_pass
             · rfl
             intro K hK
             go_simp
             refine hK _ ?_
             clear hK K)
          | (apply calm_step
             · rfl
             · intro w1 h1
               first
                 | (go_simp
                    first
                      | rfl
                      | exact ⟨rfl, h1⟩
                   )
             intro K hK
             go_simp
             refine hK _ ?_
             clear hK K)
        refine calm_nil ?_
        intro w2 H2
        go_wp2
        go_ret
        rw [hfin.out]
        exact ⟨rfl, (hfold _ H2).pick [2, 0, 3, 4]⟩
      · obtain ⟨p, rfl, hp⟩ := among_one (hin.out.1 rfl)
        obtain ⟨q, rfl, hq⟩ := among_one (hto.out.1 rfl)
        have hfin := Lib.hid (show RogM.do ⟨m, imgs⟩ ⟨6, p, q, n, bb⟩ = (true, ⟨m.lays q [m.blk p], imgs⟩) by
          unfold RogM.do
          simp [hin.out.1 rfl, hto.out.1 rfl, RogM.put])
        have xp : m.last[p]? = some (m.blk p) := mblk_at hp
        have lp : (m.blk p).length = 128 := hif _ (List.mem_of_getElem? xp)
        obtain ⟨X, hX⟩ : ∃ X, m.blk p = X := ⟨_, rfl⟩
        rw [hX] at xp lp hfin
        have ok1 : (m.lay q X).1 = true := lay_ok (by omega) (by omega) lp
        rw [hM] at hp hq
        have hpi : (p : Int) < (M : Int) := by omega
        clear hin hto hX
        go_upto_region 56 with (fail)
        clear d0 d1 d2 d3 d4 c0 c1 s0
        refine wp_calm_tail 22 (fun w' => St S w w' [Blk mb (mvCells ⟨6, (p : Int), (q : Int), n, bb⟩ x) 40, RrB b b2 (.slice ao K ci), Blk b2 #[.slice (some ⟨gl, 0, none⟩) M cl, vw, .int .i64 m.calls, vc] 67, Row 9 1 (.slice (some ⟨gl, 0, none⟩) M cl) M (texts m.last), Row 103 2 vw m.waits.length (refWaits m.waits), Row 3 1 vc m.reads.length (intCells m.reads), TR (.slice ao K ci) imgs vs, Pile TA vs imgs]) (by kernel_rfl) (by kernel_rfl) (HA.drew) ?_
        simp only [List.take_succ_cons, List.take_zero, List.drop_succ_cons, List.drop_zero]
        iterate 22 first
          | (apply calm_pass
             · rfl
             intro K hK
             go_simp
             refine hK _ ?_
             clear hK K)
          | (apply calm_step
             · rfl
             · intro w1 h1
               have e0 : w1.cell? ⟨b, 0, none⟩ = some (.pointer (some ⟨b2, 0, none⟩)) := h1.cell 1 0 rfl rfl
               have g0 : w1.cell? ⟨b2, 0, none⟩ = some (.slice (some ⟨gl, 0, none⟩) M cl) := h1.cell 2 0 rfl rfl
               have e1 : w1.cell? ⟨mb, 1, none⟩ = some (.int .i64 (p : Int)) := h1.cell 0 1 rfl rfl
               have e2 : w1.cell? ⟨mb, 2, none⟩ = some (.int .i64 (q : Int)) := h1.cell 0 2 rfl rfl
               have e3 : w1.cell? ⟨mb, 3, none⟩ = some (.int .i64 n) := h1.cell 0 3 rfl rfl
               have r1 : w1.cell? ⟨gl, p, none⟩ = some (.string ⟨X.toArray⟩) := by have := h1.rowCell 3 p rfl (texts_at xp); unfold textV at this; exact this
               first
                 | (go_simp
                    first
                      | rfl
                      | exact ⟨rfl, h1⟩
                   )
             intro K hK
             go_simp
             refine hK _ ?_
             clear hK K)
        refine calm_nil ?_
        intro w5 H5
        have HF := hfold _ H5
        go_wp2_with (go_at_call 32; go_must (refine (lay_text hgs (by omega) ok1 HF).mono ?_; rintro e w6 ⟨rfl, H6⟩))
        go_ret
        rw [hfin.out]
        exact ⟨rfl, H6.pick [2, 0, 3, 4]⟩

end Go.Proofs.YtaafedpjifaghaaDoor
