import Derived.Test.YtaafedpjifaghaaDoorGp4
import Derived.Test.YtaafedpjifaghaaDoorGp7
import Derived.Test.YtaafedpjifaghaaDoorGp8
import Derived.Test.YtaafedpjifaghaaDoorGp9
import Derived.Test.YtaafedpjifaghaaDoorGp10
import Derived.Test.YtaafedpjifaghaaDoorGp11
import Derived.Test.YtaafedpjifaghaaDoorRows
import Derived.Deep.DeepHandedRow
import Derived.SizedLaws
import Derived.LaidMore
import Derived.Lay
import Derived.Stop.LaidErr
import Derived.Lib.LaidTab
import Derived.Lib.ItoaNum
import Derived.SevenTiedAt
import Derived.Stop.Joined
import Derived.Shelf.Vars
/- The walk of the reference's rogue: Do, kind 7. Conditions: its blocks lie as its maker lays them. (Printed by gen_rrd.py.) -/
set_option linter.unusedVariables false
set_option linter.unusedSimpArgs false
namespace Go.Proofs.YtaafedpjifaghaaDoor
open Go.RowKit

set_option maxHeartbeats 4000000 in
set_option maxRecDepth 100000 in
theorem ref24_do7 {b b2 : Nat} {iv : Value} {r : RogM} {vs : List Value} (at' tt n : Int) (bb : List UInt8) {x : Value} {w : World} {S : Nat → Prop} (hg : r.Good) (hvs : vs.length = r.imgs.length) (H : Sep w [RrB b b2 iv, RefAt b2 r.s, TR iv r.imgs vs, Pile TA vs r.imgs] S) :
    Calls Tryd.prog 13 #[.pointer (some ⟨b, 0, none⟩), .agg (mvCells ⟨7, at', tt, n, bb⟩ x)] w fun e w' => e = .returned (.bool (r.do ⟨7, at', tt, n, bb⟩).1) ∧ St S w w' [RrB b b2 iv, RefAt b2 (r.do ⟨7, at', tt, n, bb⟩).2.s, TR iv r.imgs vs, Pile TA vs r.imgs] := by
  obtain ⟨m, imgs⟩ := r
  have hroom := hg.room
  have hgs := hg.s
  have hcnt := hg.s.count
  have hif := hg.s.full
  have himg := hg.imgs
  simp only at hroom hcnt hgs hif hvs himg
  obtain ⟨mb, hmb⟩ : ∃ g, w.heap.size = g := ⟨_, rfl⟩
  obtain ⟨S1, hT⟩ := H.get 2 rfl
  obtain ⟨ao, ci, rfl, hci, hao⟩ := Off.shape hT
  obtain ⟨vl, vw, vc, H1⟩ := RefAt.open (St.pick (St.refl H) [1, 0, 2, 3])
  have HA := ((H1.allocAt hmb (mvCells ⟨7, at', tt, n, bb⟩ x) 40).pick [0, 5, 1, 2, 3, 4, 6, 7])
  have HA : St S w (w.alloc (.cells (mvCells ⟨7, at', tt, n, bb⟩ x) 40)) [Blk mb (mvCells ⟨7, at', tt, n, bb⟩ x) 40, RrB b b2 (.slice ao imgs.length ci), Blk b2 #[vl, vw, .int .i64 m.calls, vc] 67, Row 9 1 vl m.last.length (texts m.last), Row 103 2 vw m.waits.length (refWaits m.waits), Row 3 1 vc m.reads.length (intCells m.reads), TR (.slice ao imgs.length ci) imgs vs, Pile TA vs imgs] := HA
  obtain ⟨gl, cl, rfl⟩ := row_form (HA.row 3 rfl) (N := m.last.length) rfl (by omega)
  obtain ⟨K, hK⟩ : ∃ K, imgs.length = K := ⟨_, rfl⟩
  obtain ⟨M, hM⟩ : ∃ M, m.last.length = M := ⟨_, rfl⟩
  have hfold := fun (w' : World) (h : St S w w' [Blk mb (mvCells ⟨7, at', tt, n, bb⟩ x) 40, RrB b b2 (.slice ao K ci), Blk b2 #[.slice (some ⟨gl, 0, none⟩) M cl, vw, .int .i64 m.calls, vc] 67, Row 9 1 (.slice (some ⟨gl, 0, none⟩) M cl) M (texts m.last), Row 103 2 vw m.waits.length (refWaits m.waits), Row 3 1 vc m.reads.length (intCells m.reads), TR (.slice ao K ci) imgs vs, Pile TA vs imgs]) => show St S w w' [RefAt b2 m, Blk mb (mvCells ⟨7, at', tt, n, bb⟩ x) 40, RrB b b2 (.slice ao K ci), TR (.slice ao K ci) imgs vs, Pile TA vs imgs] from RefAt.mk (l := [_, _, _, _]) (vl := .slice (some ⟨gl, 0, none⟩) M cl) (vw := vw) (vc := vc) (by unfold refParts; rw [hM]; exact h.pick [2, 3, 4, 5, 0, 1, 6, 7])
  rw [hK] at HA hroom hvs hci hao
  rw [hM] at HA hcnt
  rw [hK]
  have d0 : (w.alloc (.cells (mvCells ⟨7, at', tt, n, bb⟩ x) 40)).cell? ⟨mb, 0, none⟩ = some (.int .i64 7) := HA.cell 0 0 rfl rfl
  have d1 : (w.alloc (.cells (mvCells ⟨7, at', tt, n, bb⟩ x) 40)).cell? ⟨mb, 1, none⟩ = some (.int .i64 at') := HA.cell 0 1 rfl rfl
  have d2 : (w.alloc (.cells (mvCells ⟨7, at', tt, n, bb⟩ x) 40)).cell? ⟨mb, 2, none⟩ = some (.int .i64 tt) := HA.cell 0 2 rfl rfl
  have d3 : (w.alloc (.cells (mvCells ⟨7, at', tt, n, bb⟩ x) 40)).cell? ⟨mb, 3, none⟩ = some (.int .i64 n) := HA.cell 0 3 rfl rfl
  have d4 : (w.alloc (.cells (mvCells ⟨7, at', tt, n, bb⟩ x) 40)).cell? ⟨mb, 4, none⟩ = some x := HA.cell 0 4 rfl rfl
  have c0 : (w.alloc (.cells (mvCells ⟨7, at', tt, n, bb⟩ x) 40)).cell? ⟨b, 0, none⟩ = some (.pointer (some ⟨b2, 0, none⟩)) := HA.cell 1 0 rfl rfl
  have c1 : (w.alloc (.cells (mvCells ⟨7, at', tt, n, bb⟩ x) 40)).cell? ⟨b, 1, none⟩ = some (.slice ao K ci) := HA.cell 1 1 rfl rfl
  have s0 : (w.alloc (.cells (mvCells ⟨7, at', tt, n, bb⟩ x) 40)).cell? ⟨b2, 0, none⟩ = some (.slice (some ⟨gl, 0, none⟩) M cl) := HA.cell 2 0 rfl rfl
  obtain ⟨bi, hbi⟩ : ∃ bi, (decide (0 ≤ at') && decide (at' < (M : Int))) = bi := ⟨_, rfl⟩
  obtain ⟨bt, hbt⟩ : ∃ bt, (decide (0 ≤ tt) && decide (tt < (M : Int))) = bt := ⟨_, rfl⟩
  have ka := fun w => ref24_among at' M w
  have kb := fun w => ref24_among tt M w
  rw [hbi] at ka
  rw [hbt] at kb
  have hin := Lib.hid (show (bi = true ↔ m.among at' 1) by rw [← hbi]; simp [StM.among, hM]; omega)
  have hto := Lib.hid (show (bt = true ↔ m.among tt 1) by rw [← hbt]; simp [StM.among, hM]; omega)
  obtain ⟨od, hod⟩ : ∃ od : Nat, (if imgs = [] then 0 else (RogM.mk m imgs).ix n) = od := ⟨_, rfl⟩
  have hodc : K = 0 ∧ od = 0 ∨ 0 < K ∧ n.tmod K < 0 ∧ (od : Int) = n.tmod K + K ∧ od < K ∨ 0 < K ∧ 0 ≤ n.tmod K ∧ (od : Int) = n.tmod K ∧ od < K := by
    rw [← hod, ← hK]
    exact old_cases n m imgs
  clear hbi hbt H1 hT S1
  go_enter Tryd.func13, Tryd.ntmps13
  go_upto_if 44 with (go_at_call 31; first | (with_reducible refine (ka _).mono ?_; rintro e w' ⟨rfl, rfl⟩) | (refine (kb _).mono ?_; rintro e w' ⟨rfl, rfl⟩))
  obtain ⟨wa, hwa⟩ : ∃ wa, w.alloc (.cells (mvCells ⟨7, at', tt, n, bb⟩ x) 40) = wa := ⟨_, rfl⟩
  rw [hwa] at HA d0 d1 d2 d3 d4 c0 c1 s0
  rw [hwa]
  clear hwa ka kb
  go_cut [9] from 43 to 53 (fun o wx => o = .int .i64 (od : Int) ∧ wx = wa)
  case first =>
    rcases hodc with ⟨q1, q2⟩ | ⟨q1, q2, q3, q4⟩ | ⟨q1, q2, q3, q4⟩
    · have z4 : ¬ (0 : Int) < (K : Int) := by omega
      have q2h := Lib.hid q2
      clear q1 q2
      go_wp2
      go_meet
      exact ⟨by rw [q2h.out]; rfl, rfl⟩
    · obtain ⟨t, ht⟩ : ∃ t, n.tmod (K : Int) = t := ⟨_, rfl⟩
      rw [ht] at q2 q3
      have z0 : ((K : Int) == 0) = false := by simp; omega
      have z1 : IntKind.i64.wrap t = t := by rw [IntKind.wrap_i64]; omega
      have z2 : IntKind.i64.wrap (t + (K : Int)) = (od : Int) := by rw [IntKind.wrap_i64]; omega
      have z3 : decide (t < 0) = true := by simpa using q2
      have z4 : (0 : Int) < (K : Int) := by omega
      clear q3
      go_wp2
      go_meet
      exact ⟨rfl, rfl⟩
    · obtain ⟨t, ht⟩ : ∃ t, n.tmod (K : Int) = t := ⟨_, rfl⟩
      rw [ht] at q2 q3
      have z0 : ((K : Int) == 0) = false := by simp; omega
      have z1 : IntKind.i64.wrap t = t := by rw [IntKind.wrap_i64]; omega
      have z3 : decide (t < 0) = false := by simpa using q2
      have z4 : (0 : Int) < (K : Int) := by omega
      have q3h := Lib.hid q3
      clear q3
      go_wp2
      go_meet
      exact ⟨by rw [q3h.out], rfl⟩
  case rest =>
    obtain ⟨rfl, rfl⟩ := hcut
    cases bi
    · have hn1 : ¬ m.among at' n := fun h => by have := hin.out.2 ⟨h.1, by omega, by have := h.2; omega⟩; cases this
      have hfin := Lib.hid (show RogM.do ⟨m, imgs⟩ ⟨7, at', tt, n, bb⟩ = (false, ⟨m, imgs⟩) by
        unfold RogM.do
        simp [hn1])
      go_wp2
      go_ret
      rw [hfin.out]
      exact ⟨rfl, (hfold _ HA).pick [2, 0, 3, 4]⟩
    · obtain ⟨p, rfl, hp⟩ := among_one (hin.out.1 rfl)
      rw [hM] at hp
      have hw1 : IntKind.i64.wrap ((M : Int) - (p : Int)) = (M : Int) - (p : Int) := by rw [IntKind.wrap_i64]; omega
      by_cases h2 : n < 1
      · have hd5 : decide (n < 1) = true := by simpa using h2
        have hn1 : ¬ m.among p n := fun h => by have := h.2.1; omega
        have hfin := Lib.hid (show RogM.do ⟨m, imgs⟩ ⟨7, p, tt, n, bb⟩ = (false, ⟨m, imgs⟩) by
          unfold RogM.do
          simp [hn1])
        go_wp2
        go_ret
        rw [hfin.out]
        exact ⟨rfl, (hfold _ HA).pick [2, 0, 3, 4]⟩
      · have hd5 : decide (n < 1) = false := by simpa using h2
        by_cases h3 : (M : Int) - (p : Int) < n
        · have hd6 : decide ((M : Int) - (p : Int) < n) = true := by simpa using h3
          have hn1 : ¬ m.among p n := fun h => by have := h.2.2; omega
          have hfin := Lib.hid (show RogM.do ⟨m, imgs⟩ ⟨7, p, tt, n, bb⟩ = (false, ⟨m, imgs⟩) by
            unfold RogM.do
            simp [hn1])
          go_wp2
          go_ret
          rw [hfin.out]
          exact ⟨rfl, (hfold _ HA).pick [2, 0, 3, 4]⟩
        · have hd6 : decide ((M : Int) - (p : Int) < n) = false := by simpa using h3
          obtain ⟨k, rfl⟩ : ∃ k : Nat, n = k := ⟨n.toNat, by omega⟩
          have hpk : p + k ≤ M := by omega
          have hw2 : IntKind.i64.wrap (-(p : Int)) = -(p : Int) := by rw [IntKind.wrap_i64]; omega
          have hw3 : IntKind.i64.wrap ((M : Int) - (p : Int) - (k : Int)) = (M : Int) - (p : Int) - (k : Int) := by rw [IntKind.wrap_i64]; omega
          have hm : m.among p k := ⟨by omega, by omega, by omega⟩
          by_cases h4 : tt < -(p : Int)
          · have hd7 : decide (tt < -(p : Int)) = true := by simpa using h4
            have hfin := Lib.hid (show RogM.do ⟨m, imgs⟩ ⟨7, p, tt, k, bb⟩ = (false, ⟨m, imgs⟩) by
              unfold RogM.do
              simp [show ¬ -(p : Int) ≤ tt by omega])
            go_wp2
            go_ret
            rw [hfin.out]
            exact ⟨rfl, (hfold _ HA).pick [2, 0, 3, 4]⟩
          · have hd7 : decide (tt < -(p : Int)) = false := by simpa using h4
            by_cases h5 : (M : Int) - (p : Int) - (k : Int) < tt
            · have hd8 : decide ((M : Int) - (p : Int) - (k : Int) < tt) = true := by simpa using h5
              have hn1 : ¬ m.among ((p : Int) + tt) k := fun h => by have := h.2.2; omega
              have hfin := Lib.hid (show RogM.do ⟨m, imgs⟩ ⟨7, p, tt, k, bb⟩ = (false, ⟨m, imgs⟩) by
                unfold RogM.do
                simp [hn1])
              go_wp2
              go_ret
              rw [hfin.out]
              exact ⟨rfl, (hfold _ HA).pick [2, 0, 3, 4]⟩
            · have hd8 : decide ((M : Int) - (p : Int) - (k : Int) < tt) = false := by simpa using h5
              obtain ⟨q, hq⟩ := Int.eq_ofNat_of_zero_le (show 0 ≤ (p : Int) + tt by omega)
              have hqk : q + k ≤ M := by omega
              have hm5 : m.among (q : Int) k := ⟨by omega, by omega, by omega⟩
              have hfin := Lib.hid (show RogM.do ⟨m, imgs⟩ ⟨7, p, tt, k, bb⟩ = (true, ⟨m.lays q ((m.last.drop p).take k), imgs⟩) by
                unfold RogM.do
                simp [hm, hq, hm5, RogM.put, show -(p : Int) ≤ tt by omega, show tt ≤ (m.last.length : Int) by omega])
              have hw4 : IntKind.i64.wrap ((p : Int) + tt) = (q : Int) := by rw [IntKind.wrap_i64]; omega
              have hqh := Lib.hid hq
              clear hin hto hodc hm hm5 hq h4 h5
              have HN := ((HA.allocAt rfl #[] 9))
              have HN2 : St S w (wc.alloc (.cells #[] 9)) (Row 9 1 (.slice (some ⟨wc.heap.size, 0, none⟩) 0 0) 0 [] :: [Blk mb (mvCells ⟨7, (p : Int), tt, (k : Int), bb⟩ x) 40, RrB b b2 (.slice ao K ci), Blk b2 #[.slice (some ⟨gl, 0, none⟩) M cl, vw, .int .i64 m.calls, vc] 67, Row 9 1 (.slice (some ⟨gl, 0, none⟩) M cl) M (texts m.last), Row 103 2 vw m.waits.length (refWaits m.waits), Row 3 1 vc m.reads.length (intCells m.reads), TR (.slice ao K ci) imgs vs, Pile TA vs imgs]) := St.blkRow (n := 0) (size := 1) HN rfl (Nat.zero_le _)
              have hro := HN2.row 4 rfl
              have hb1 := HA.blk_lt 1 rfl
              have hb2 := HA.blk_lt 2 rfl
              clear HN
              go_upto_block 10 with (at_builtin; go_must (refine St.list_add HN2 0 rfl rfl (.tmp 332) (.tmp 339) 64 rfl Tryd.underlying64 Tryd.info9 (by decide) rfl (texts m.last) rfl (by simp [texts, hM]) (fun h => by cases h) (fun ad had j u hu => by cases had; rw [Addr.add_mid, Nat.zero_add]; exact own_cell hro hu) one_texts (by omega) ?_; intro v2 w2 H4 hz4))
              clear hro HN2 hb1 hb2
              simp only [Nat.zero_add, List.nil_append] at H4
              have H4 : St S w w2 (Row 9 1 v2 M (texts m.last) :: [Blk mb (mvCells ⟨7, (p : Int), tt, (k : Int), bb⟩ x) 40, RrB b b2 (.slice ao K ci), Blk b2 #[.slice (some ⟨gl, 0, none⟩) M cl, vw, .int .i64 m.calls, vc] 67, Row 9 1 (.slice (some ⟨gl, 0, none⟩) M cl) M (texts m.last), Row 103 2 vw m.waits.length (refWaits m.waits), Row 3 1 vc m.reads.length (intCells m.reads), TR (.slice ao K ci) imgs vs, Pile TA vs imgs]) := H4
              obtain ⟨g2, p2, rfl⟩ := row_form (H4.row 0 rfl) (N := M) rfl (by omega)
              have HF : St S w w2 [RefAt b2 m, Row 9 1 (.slice (some ⟨g2, 0, none⟩) M p2) M (texts m.last), Blk mb (mvCells ⟨7, (p : Int), tt, (k : Int), bb⟩ x) 40, RrB b b2 (.slice ao K ci), TR (.slice ao K ci) imgs vs, Pile TA vs imgs] := RefAt.mk (l := [_, _, _, _, _]) (vl := .slice (some ⟨gl, 0, none⟩) M cl) (vw := vw) (vc := vc) (by unfold refParts; rw [hM]; exact H4.pick [3, 4, 5, 6, 0, 1, 2, 7, 8])
              clear H4 HA d0 d1 d2 d3 d4 c0 c1 s0
              go_loopw [21] (fun j wr => ∃ i : Nat, i ≤ k ∧ j = .int .i64 i ∧ St S w wr [RefAt b2 (m.lays q (((m.last.drop p).take k).take i)), Row 9 1 (.slice (some ⟨g2, 0, none⟩) M p2) M (texts m.last), Blk mb (mvCells ⟨7, (p : Int), tt, (k : Int), bb⟩ x) 40, RrB b b2 (.slice ao K ci), TR (.slice ao K ci) imgs vs, Pile TA vs imgs]) (fun j _ => k - (intOf j).toNat)
              case atStart => exact ⟨0, by omega, rfl, HF⟩
              case round =>
                clear HF
                obtain ⟨i, hi, rfl, HL⟩ := hrel
                have d3 : wr.cell? ⟨mb, 3, none⟩ = some (.int .i64 k) := HL.cell 2 3 rfl rfl
                by_cases hlt : i < k
                · obtain ⟨X, hX⟩ : ∃ X, m.last[p + i]? = some X := ⟨_, List.getElem?_eq_getElem (by omega)⟩
                  have lX := hif X (List.mem_of_getElem? hX)
                  have hXi : ((m.last.drop p).take k)[i]? = some X := by rw [List.getElem?_take_of_lt hlt, List.getElem?_drop]; exact hX
                  have hg1 := lays_good q (((m.last.drop p).take k).take i) m hgs
                  have hl1 := lays_len q (((m.last.drop p).take k).take i) m
                  have hst : ((m.lays q (((m.last.drop p).take k).take i)).lay ((q : Int) + i) X).2 = m.lays q (((m.last.drop p).take k).take (i + 1)) := by
                    rw [take_snoc' hXi, lays_snoc, List.length_take, List.length_take, List.length_drop, Nat.min_eq_left (by omega)]
                  have ok1 : ((m.lays q (((m.last.drop p).take k).take i)).lay ((q : Int) + i) X).1 = true := lay_ok (by omega) (by omega) lX
                  have hw5 : IntKind.i64.wrap ((q : Int) + (i : Int)) = (q : Int) + (i : Int) := by rw [IntKind.wrap_i64]; omega
                  have hw6 : IntKind.i64.wrap ((p : Int) + (i : Int)) = ((p + i : Nat) : Int) := by rw [IntKind.wrap_i64]; omega
                  have hpi : (p : Int) + (i : Int) < (M : Int) := by omega
                  have htn : ((p : Int) + (i : Int)).toNat = p + i := by omega
                  have hpi0 : (0 : Int) ≤ (p : Int) + (i : Int) := by omega
                  have hsth := Lib.hid hst
                  have lXle : X.length ≤ 9223372036854775807 := by omega
                  clear hst hl1 hXi lX
                  go_upto_region 64 with (fail)
                  clear d3
                  refine wp_calm_tail 18 (fun w' => St S w w' [RefAt b2 (m.lays q (((m.last.drop p).take k).take i)), Row 9 1 (.slice (some ⟨g2, 0, none⟩) M p2) M (texts m.last), Blk mb (mvCells ⟨7, (p : Int), tt, (k : Int), bb⟩ x) 40, RrB b b2 (.slice ao K ci), TR (.slice ao K ci) imgs vs, Pile TA vs imgs]) (by kernel_rfl) (by kernel_rfl) (HL.drew) ?_
                  simp only [List.take_succ_cons, List.take_zero, List.drop_succ_cons, List.drop_zero]
                  iterate 18 first
                    | (apply calm_pass
                       · rfl
                       intro K hK
                       go_simp
                       refine hK _ ?_
                       clear hK K)
                    | (apply calm_step
                       · rfl
                       · intro w1 h1
                         have e0 : w1.cell? ⟨b, 0, none⟩ = some (.pointer (some ⟨b2, 0, none⟩)) := h1.cell 3 0 rfl rfl
                         have e1 : w1.cell? ⟨mb, 1, none⟩ = some (.int .i64 p) := h1.cell 2 1 rfl rfl
                         have e2 : w1.cell? ⟨mb, 2, none⟩ = some (.int .i64 tt) := h1.cell 2 2 rfl rfl
                         have r1 : w1.cell? ⟨g2, p + i, none⟩ = some (.string ⟨X.toArray⟩) := by have := h1.rowCell 1 (p + i) rfl (texts_at hX); unfold textV at this; exact this
                         first
                           | (go_simp
                              first
                                | rfl
                                | exact ⟨rfl, h1⟩
                             )
                       intro K hK
                       go_simp
                       refine hK _ ?_
                       clear hK K)
                  refine calm_nil ?_
                  intro w5 H5
                  go_wp2_with (go_at_call 32; go_must (refine (lay_text hg1 lXle ok1 H5).mono ?_; rintro e w6 ⟨rfl, H6⟩))
                  rw [hsth.out] at H6
                  go_roundw
                  case rel => exact ⟨i + 1, by omega, by go_num, H6⟩
                  case measure => simp [intOf]; omega
                · obtain rfl : i = k := by omega
                  have e : ((m.last.drop p).take i).take i = (m.last.drop p).take i := List.take_of_length_le (by rw [List.length_take]; omega)
                  rw [e] at HL
                  clear e
                  go_wp2
                  go_ret
                  rw [hfin.out]
                  exact ⟨rfl, HL.pick [3, 0, 4, 5]⟩

end Go.Proofs.YtaafedpjifaghaaDoor

/- The walk of the reference's rogue: Do, kind 9. Conditions: its blocks lie as its maker lays them. (Printed by gen_rrd.py.) -/
set_option linter.unusedVariables false
set_option linter.unusedSimpArgs false
namespace Go.Proofs.YtaafedpjifaghaaDoor
open Go.RowKit

set_option maxHeartbeats 4000000 in
set_option maxRecDepth 100000 in
theorem ref24_doN {b b2 : Nat} {iv : Value} {r : RogM} {vs : List Value} (k at' tt n : Int) (bb : List UInt8) {x : Value} {w : World} {S : Nat → Prop} (h0 : ¬ k = 0) (h1 : ¬ k = 1) (h2 : ¬ k = 2) (h3 : ¬ k = 3) (h4 : ¬ k = 4) (h5 : ¬ k = 5) (h6 : ¬ k = 6) (h7 : ¬ k = 7)
    (hg : r.Good) (hvs : vs.length = r.imgs.length) (H : Sep w [RrB b b2 iv, RefAt b2 r.s, TR iv r.imgs vs, Pile TA vs r.imgs] S) :
    Calls Tryd.prog 13 #[.pointer (some ⟨b, 0, none⟩), .agg (mvCells ⟨k, at', tt, n, bb⟩ x)] w fun e w' => e = .returned (.bool false) ∧ St S w w' [RrB b b2 iv, RefAt b2 r.s, TR iv r.imgs vs, Pile TA vs r.imgs] := by
  have e0 : (k == 0) = false := by simpa using h0
  have e1 : (k == 1) = false := by simpa using h1
  have e2 : (k == 2) = false := by simpa using h2
  have e3 : (k == 3) = false := by simpa using h3
  have e4 : (k == 4) = false := by simpa using h4
  have e5 : (k == 5) = false := by simpa using h5
  have e6 : (k == 6) = false := by simpa using h6
  have e7 : (k == 7) = false := by simpa using h7
  clear h0 h1 h2 h3 h4 h5 h6 h7
  obtain ⟨m, imgs⟩ := r
  have hroom := hg.room
  have hgs := hg.s
  have hcnt := hg.s.count
  have hif := hg.s.full
  have himg := hg.imgs
  simp only at hroom hcnt hgs hif hvs himg
  obtain ⟨mb, hmb⟩ : ∃ g, w.heap.size = g := ⟨_, rfl⟩
  obtain ⟨S1, hT⟩ := H.get 2 rfl
  obtain ⟨ao, ci, rfl, hci, hao⟩ := Off.shape hT
  obtain ⟨vl, vw, vc, H1⟩ := RefAt.open (St.pick (St.refl H) [1, 0, 2, 3])
  have HA := ((H1.allocAt hmb (mvCells ⟨k, at', tt, n, bb⟩ x) 40).pick [0, 5, 1, 2, 3, 4, 6, 7])
  have HA : St S w (w.alloc (.cells (mvCells ⟨k, at', tt, n, bb⟩ x) 40)) [Blk mb (mvCells ⟨k, at', tt, n, bb⟩ x) 40, RrB b b2 (.slice ao imgs.length ci), Blk b2 #[vl, vw, .int .i64 m.calls, vc] 67, Row 9 1 vl m.last.length (texts m.last), Row 103 2 vw m.waits.length (refWaits m.waits), Row 3 1 vc m.reads.length (intCells m.reads), TR (.slice ao imgs.length ci) imgs vs, Pile TA vs imgs] := HA
  obtain ⟨gl, cl, rfl⟩ := row_form (HA.row 3 rfl) (N := m.last.length) rfl (by omega)
  obtain ⟨K, hK⟩ : ∃ K, imgs.length = K := ⟨_, rfl⟩
  obtain ⟨M, hM⟩ : ∃ M, m.last.length = M := ⟨_, rfl⟩
  have hfold := fun (w' : World) (h : St S w w' [Blk mb (mvCells ⟨k, at', tt, n, bb⟩ x) 40, RrB b b2 (.slice ao K ci), Blk b2 #[.slice (some ⟨gl, 0, none⟩) M cl, vw, .int .i64 m.calls, vc] 67, Row 9 1 (.slice (some ⟨gl, 0, none⟩) M cl) M (texts m.last), Row 103 2 vw m.waits.length (refWaits m.waits), Row 3 1 vc m.reads.length (intCells m.reads), TR (.slice ao K ci) imgs vs, Pile TA vs imgs]) => show St S w w' [RefAt b2 m, Blk mb (mvCells ⟨k, at', tt, n, bb⟩ x) 40, RrB b b2 (.slice ao K ci), TR (.slice ao K ci) imgs vs, Pile TA vs imgs] from RefAt.mk (l := [_, _, _, _]) (vl := .slice (some ⟨gl, 0, none⟩) M cl) (vw := vw) (vc := vc) (by unfold refParts; rw [hM]; exact h.pick [2, 3, 4, 5, 0, 1, 6, 7])
  rw [hK] at HA hroom hvs hci hao
  rw [hM] at HA hcnt
  rw [hK]
  have d0 : (w.alloc (.cells (mvCells ⟨k, at', tt, n, bb⟩ x) 40)).cell? ⟨mb, 0, none⟩ = some (.int .i64 k) := HA.cell 0 0 rfl rfl
  have d1 : (w.alloc (.cells (mvCells ⟨k, at', tt, n, bb⟩ x) 40)).cell? ⟨mb, 1, none⟩ = some (.int .i64 at') := HA.cell 0 1 rfl rfl
  have d2 : (w.alloc (.cells (mvCells ⟨k, at', tt, n, bb⟩ x) 40)).cell? ⟨mb, 2, none⟩ = some (.int .i64 tt) := HA.cell 0 2 rfl rfl
  have d3 : (w.alloc (.cells (mvCells ⟨k, at', tt, n, bb⟩ x) 40)).cell? ⟨mb, 3, none⟩ = some (.int .i64 n) := HA.cell 0 3 rfl rfl
  have d4 : (w.alloc (.cells (mvCells ⟨k, at', tt, n, bb⟩ x) 40)).cell? ⟨mb, 4, none⟩ = some x := HA.cell 0 4 rfl rfl
  have c0 : (w.alloc (.cells (mvCells ⟨k, at', tt, n, bb⟩ x) 40)).cell? ⟨b, 0, none⟩ = some (.pointer (some ⟨b2, 0, none⟩)) := HA.cell 1 0 rfl rfl
  have c1 : (w.alloc (.cells (mvCells ⟨k, at', tt, n, bb⟩ x) 40)).cell? ⟨b, 1, none⟩ = some (.slice ao K ci) := HA.cell 1 1 rfl rfl
  have s0 : (w.alloc (.cells (mvCells ⟨k, at', tt, n, bb⟩ x) 40)).cell? ⟨b2, 0, none⟩ = some (.slice (some ⟨gl, 0, none⟩) M cl) := HA.cell 2 0 rfl rfl
  obtain ⟨bi, hbi⟩ : ∃ bi, (decide (0 ≤ at') && decide (at' < (M : Int))) = bi := ⟨_, rfl⟩
  obtain ⟨bt, hbt⟩ : ∃ bt, (decide (0 ≤ tt) && decide (tt < (M : Int))) = bt := ⟨_, rfl⟩
  have ka := fun w => ref24_among at' M w
  have kb := fun w => ref24_among tt M w
  rw [hbi] at ka
  rw [hbt] at kb
  have hin := Lib.hid (show (bi = true ↔ m.among at' 1) by rw [← hbi]; simp [StM.among, hM]; omega)
  have hto := Lib.hid (show (bt = true ↔ m.among tt 1) by rw [← hbt]; simp [StM.among, hM]; omega)
  obtain ⟨od, hod⟩ : ∃ od : Nat, (if imgs = [] then 0 else (RogM.mk m imgs).ix n) = od := ⟨_, rfl⟩
  have hodc : K = 0 ∧ od = 0 ∨ 0 < K ∧ n.tmod K < 0 ∧ (od : Int) = n.tmod K + K ∧ od < K ∨ 0 < K ∧ 0 ≤ n.tmod K ∧ (od : Int) = n.tmod K ∧ od < K := by
    rw [← hod, ← hK]
    exact old_cases n m imgs
  clear hbi hbt H1 hT S1
  go_enter Tryd.func13, Tryd.ntmps13
  go_upto_if 44 with (go_at_call 31; first | (with_reducible refine (ka _).mono ?_; rintro e w' ⟨rfl, rfl⟩) | (refine (kb _).mono ?_; rintro e w' ⟨rfl, rfl⟩))
  obtain ⟨wa, hwa⟩ : ∃ wa, w.alloc (.cells (mvCells ⟨k, at', tt, n, bb⟩ x) 40) = wa := ⟨_, rfl⟩
  rw [hwa] at HA d0 d1 d2 d3 d4 c0 c1 s0
  rw [hwa]
  clear hwa ka kb
  go_cut [9] from 43 to 53 (fun o wx => o = .int .i64 (od : Int) ∧ wx = wa)
  case first =>
    rcases hodc with ⟨q1, q2⟩ | ⟨q1, q2, q3, q4⟩ | ⟨q1, q2, q3, q4⟩
    · have z4 : ¬ (0 : Int) < (K : Int) := by omega
      have q2h := Lib.hid q2
      clear q1 q2
      go_wp2
      go_meet
      exact ⟨by rw [q2h.out]; rfl, rfl⟩
    · obtain ⟨t, ht⟩ : ∃ t, n.tmod (K : Int) = t := ⟨_, rfl⟩
      rw [ht] at q2 q3
      have z0 : ((K : Int) == 0) = false := by simp; omega
      have z1 : IntKind.i64.wrap t = t := by rw [IntKind.wrap_i64]; omega
      have z2 : IntKind.i64.wrap (t + (K : Int)) = (od : Int) := by rw [IntKind.wrap_i64]; omega
      have z3 : decide (t < 0) = true := by simpa using q2
      have z4 : (0 : Int) < (K : Int) := by omega
      clear q3
      go_wp2
      go_meet
      exact ⟨rfl, rfl⟩
    · obtain ⟨t, ht⟩ : ∃ t, n.tmod (K : Int) = t := ⟨_, rfl⟩
      rw [ht] at q2 q3
      have z0 : ((K : Int) == 0) = false := by simp; omega
      have z1 : IntKind.i64.wrap t = t := by rw [IntKind.wrap_i64]; omega
      have z3 : decide (t < 0) = false := by simpa using q2
      have z4 : (0 : Int) < (K : Int) := by omega
      have q3h := Lib.hid q3
      clear q3
      go_wp2
      go_meet
      exact ⟨by rw [q3h.out], rfl⟩
  case rest =>
    obtain ⟨rfl, rfl⟩ := hcut
    go_wp2
    go_ret
    exact ⟨rfl, (hfold _ HA).pick [2, 0, 3, 4]⟩

end Go.Proofs.YtaafedpjifaghaaDoor

/- The walk of the reference's rogue: Do in general. Conditions: its blocks lie as its maker lays them; a move's bytes can be read. -/
set_option linter.unusedVariables false
set_option linter.unusedSimpArgs false
namespace Go.Proofs.YtaafedpjifaghaaDoor
open Go.RowKit

/-- ANY MOVE. -/
theorem ref24_do {b b2 : Nat} {iv : Value} {r : RogM} (v : Mv) {x : Value} {w : World} {S : Nat → Prop} (hv : BytesRO S w x v.b) (hg : r.Good) (H : Sep w [RrB b b2 iv, RefAt b2 r.s, TImgs iv r.imgs] S) :
    Calls Tryd.prog 13 #[.pointer (some ⟨b, 0, none⟩), .agg (mvCells v x)] w fun e w' => e = .returned (.bool (r.do v).1) ∧ St S w w' [RrB b b2 iv, RefAt b2 (r.do v).2.s, TImgs iv (r.do v).2.imgs] := by
  rw [do_imgs]
  obtain ⟨k, at', tt, n, bb⟩ := v
  obtain ⟨vs, hvs, H0⟩ := Stack.open ((St.refl H).pick [2, 0, 1])
  have H0 : St S w w [TR iv r.imgs vs, Pile TA vs r.imgs, RrB b b2 iv, RefAt b2 r.s] := H0
  have H1 := (H0.pick [2, 3, 0, 1]).sep.mono (S' := S) (fun k hk h => h.elim id (fun h => by omega))
  have fin : ∀ w', St S w w' [RrB b b2 iv, RefAt b2 (r.do ⟨k, at', tt, n, bb⟩).2.s, TR iv r.imgs vs, Pile TA vs r.imgs] → St S w w' [RrB b b2 iv, RefAt b2 (r.do ⟨k, at', tt, n, bb⟩).2.s, TImgs iv r.imgs] := fun w' h =>
    St.pick (l := [TImgs iv r.imgs, RrB b b2 iv, RefAt b2 (r.do ⟨k, at', tt, n, bb⟩).2.s]) (Stack.mk (vs := vs) (h.pick [2, 3, 0, 1])) [1, 2, 0]
  by_cases h0 : k = 0
  · subst h0
    exact (ref24_do0 at' tt n bb hv hg hvs H1).mono fun e w' ⟨he, h⟩ => ⟨he, fin _ h⟩
  by_cases h1 : k = 1
  · subst h1
    exact (ref24_do1 at' tt n bb hg hvs H1).mono fun e w' ⟨he, h⟩ => ⟨he, fin _ h⟩
  by_cases h2 : k = 2
  · subst h2
    exact (ref24_do2 at' tt n bb hg hvs H1).mono fun e w' ⟨he, h⟩ => ⟨he, fin _ h⟩
  by_cases h3 : k = 3
  · subst h3
    exact (ref24_do3 at' tt n bb hg hvs H1).mono fun e w' ⟨he, h⟩ => ⟨he, fin _ h⟩
  by_cases h4 : k = 4
  · subst h4
    exact (ref24_do4 at' tt n bb hg hvs H1).mono fun e w' ⟨he, h⟩ => ⟨he, fin _ h⟩
  by_cases h5 : k = 5
  · subst h5
    exact (ref24_do5 at' tt n bb hg hvs H1).mono fun e w' ⟨he, h⟩ => ⟨he, fin _ h⟩
  by_cases h6 : k = 6
  · subst h6
    exact (ref24_do6 at' tt n bb hg hvs H1).mono fun e w' ⟨he, h⟩ => ⟨he, fin _ h⟩
  by_cases h7 : k = 7
  · subst h7
    exact (ref24_do7 at' tt n bb hg hvs H1).mono fun e w' ⟨he, h⟩ => ⟨he, fin _ h⟩
  have hn := do_none (r := r) (v := ⟨k, at', tt, n, bb⟩) h0 h1 h2 h3 h4 h5 h6 h7
  rw [hn] at fin ⊢
  exact (ref24_doN k at' tt n bb h0 h1 h2 h3 h4 h5 h6 h7 hg hvs H1).mono fun e w' ⟨he, h⟩ => ⟨he, fin _ h⟩

end Go.Proofs.YtaafedpjifaghaaDoor

/- The walk of RoguePlays. Conditions: the moves and the notes can be read; the library's variables hold what its text lays. -/
set_option linter.unusedVariables false
set_option linter.unusedSimpArgs false
namespace Go.Proofs.YtaafedpjifaghaaDoor
open Go.RowKit

theorem imgs_shape {w0 w : World} {S : Nat → Prop} {L : List SP} {e : TypeId} {β : Type} {A : Value → β → SP} {iv : Value} {l : List β} (H : St S w0 w (Stack A e iv l :: L)) : ∃ a p, iv = .slice a l.length p := by
  obtain ⟨vs, _, H⟩ := Stack.open H
  obtain ⟨S2, h5⟩ := H.sep.get 0 rfl
  obtain ⟨a, p, rfl, _⟩ := Off.shape h5
  exact ⟨a, p, rfl⟩
set_option maxHeartbeats 8000000 in
set_option maxRecDepth 100000 in
theorem rogue_plays {N : Int} {lv nv : Value} {l : List (Mv × Value)} {notes : List Bool} {w : World} (hl : MvsRO (fun _ => False) w lv l) (hn : BoolsRO (fun _ => False) w nv notes) (hVar : Vars w) :
    Calls Tryd.prog 3 #[.int .i64 N, lv, nv] w fun e w' => e = .returned (.bool true) ∧ Below w.heap.size w w' := by
  obtain ⟨ad, cap, rfl, hlen, _⟩ := id hl
  obtain ⟨nd, ncap, rfl, hnlen, _⟩ := id hn
  have kf := first24 hVar
  have hlh := Lib.hid hl
  have hnh := Lib.hid hn
  clear hl hn
  go_enter Tryd.func3, Tryd.ntmps3
  go_upto_region 3 with (go_at_call 6; go_must (refine kf.mono ?_; rintro e w1 ⟨rfl, hb⟩; have H1 : St (fun _ => False) w w1 [] := (St.nil _ w).past hb))
  by_cases hbad : N < 1 ∨ 8 < N ∨ 80 < l.length
  · by_cases h1 : N < 1
    · have z1 : decide (N < 1) = true := by simpa using h1
      clear hbad
      go_wp2
      go_ret
      exact ⟨rfl, H1.below (Nat.le_refl _) (fun _ h => h.elim)⟩
    · have z1 : decide (N < 1) = false := by simpa using h1
      by_cases h2 : 8 < N
      · have z2 : decide (8 < N) = true := by simpa using h2
        clear hbad
        go_wp2
        go_ret
        exact ⟨rfl, H1.below (Nat.le_refl _) (fun _ h => h.elim)⟩
      · have z2 : decide (8 < N) = false := by simpa using h2
        have z3 : decide ((80 : Int) < (l.length : Int)) = true := by simp; omega
        clear hbad
        go_wp2
        go_ret
        exact ⟨rfl, H1.below (Nat.le_refl _) (fun _ h => h.elim)⟩
  obtain ⟨n0, rfl⟩ := Int.eq_ofNat_of_zero_le (show 0 ≤ N by omega)
  have hn1 : 1 ≤ n0 := by omega
  have hn8 : n0 ≤ 8 := by omega
  have hl80 : l.length ≤ 80 := by omega
  have z1 : decide ((n0 : Int) < 1) = false := by simp; omega
  have z2 : decide ((8 : Int) < (n0 : Int)) = false := by simp; omega
  have z3 : decide ((80 : Int) < (l.length : Int)) = false := by simp; omega
  have g0 : (RogM.mk (newStore n0) []).Good := ⟨newStore_good (by omega) (by omega), by simp, by simp⟩
  clear hbad
  go_upto_region 6 with (go_at_call 7; go_must (refine (store_made n0 (by omega) (by omega) w1).mono ?_; rintro e w2 ⟨bs, rfl, H2⟩; have H3 := H1.call0 H2))
  go_upto_region 7 with (go_at_call 8; go_must (refine (rogue_new bs _).mono ?_; rintro e w3 ⟨b, rfl, H4⟩; have H5 := H3.call0 H4))
  go_upto_region 8 with (go_at_call 9; go_must (refine (ref_made n0 (by omega) _).mono ?_; rintro e w4 ⟨bs2, rfl, H6⟩; have H7 : St (fun _ => False) w w4 [RefAt bs2 (newStore n0), RogB b bs (.slice none 0 0), StoreAt bs (newStore n0)] := H5.call0 H6))
  obtain ⟨b2, hb2⟩ : ∃ g, w4.heap.size = g := ⟨_, rfl⟩
  have H8 : St (fun _ => False) w (w4.alloc (.cells #[.pointer (some ⟨bs2, 0, none⟩), .slice none 0 0] 37)) [RogB b bs (.slice none 0 0), StoreAt bs (newStore n0), Imgs (.slice none 0 0) [], RrB b2 bs2 (.slice none 0 0), RefAt bs2 (newStore n0), TImgs (.slice none 0 0) []] := St.pick (l := [TImgs (.slice none 0 0) [], Imgs (.slice none 0 0) [], RrB b2 bs2 (.slice none 0 0), RefAt bs2 (newStore n0), RogB b bs (.slice none 0 0), StoreAt bs (newStore n0)]) (Stack.nil (Stack.nil (H7.allocAt hb2 #[.pointer (some ⟨bs2, 0, none⟩), .slice none 0 0] 37))) [4, 5, 1, 2, 3, 0]
  obtain ⟨w5, hw5⟩ : ∃ w5, w4.alloc (.cells #[.pointer (some ⟨bs2, 0, none⟩), .slice none 0 0] 37) = w5 := ⟨_, rfl⟩
  rw [hw5] at H8
  rw [hw5]
  try rw [hb2]
  clear hw5 hb2 H7 H6 H5 H4 H3 H2 kf
  go_upto_block 1 with (fail)
  go_loopw [44] (fun j wr => ∃ (k : Nat) (r : RogM) (iv iv2 : Value), k ≤ l.length ∧ j = .int .i64 k ∧ r.Good ∧ St (fun _ => False) w wr [RogB b bs iv, StoreAt bs r.s, Imgs iv r.imgs, RrB b2 bs2 iv2, RefAt bs2 r.s, TImgs iv2 r.imgs]) (fun j _ => l.length - (intOf j).toNat)
  case atStart => exact ⟨0, ⟨newStore n0, []⟩, _, _, by omega, rfl, g0, H8⟩
  case round =>
    clear H8 g0
    obtain ⟨k, r, iv, iv2, hk, rfl, hg, HL⟩ := hrel
    by_cases hlt : k < l.length
    · obtain ⟨⟨v, x⟩, hx⟩ : ∃ y, l[k]? = some y := ⟨_, List.getElem?_eq_getElem hlt⟩
      obtain ⟨hvb, hvl⟩ := (show ∀ y ∈ l, BytesRO (fun _ => False) w y.2 y.1.b ∧ y.1.b.length ≤ 9223372036854775807 by obtain ⟨_, _, _, _, h, _⟩ := hlh.out; exact h) _ (List.mem_of_getElem? hx)
      obtain ⟨xa, xc, e, _⟩ := id hvb
      simp only at e hvl
      subst e
      obtain ⟨bo, o, cp, e, c0, c1, c2, c3, c4⟩ := hlh.out.at HL.kept hx
      injection e with e e2 e3
      subst e
      simp only at c0 c1 c2 c3 c4
      have hvh := Lib.hid hvb
      obtain ⟨mb, hmb⟩ : ∃ g, wr.heap.size = g := ⟨_, rfl⟩
      have HA : St (fun _ => False) w (wr.alloc (.cells (mvCells v (.slice xa v.b.length xc)) 40)) [Blk mb (mvCells v (.slice xa v.b.length xc)) 40, RogB b bs iv, StoreAt bs r.s, Imgs iv r.imgs, RrB b2 bs2 iv2, RefAt bs2 r.s, TImgs iv2 r.imgs] := HL.allocAt hmb _ _
      have hki : (k : Int) < (l.length : Int) := by omega
      clear hx hvb e3
      go_upto_region 12 with (fail)
      obtain ⟨wa, hwa⟩ : ∃ wa, wr.alloc (.cells (mvCells v (.slice xa v.b.length xc)) 40) = wa := ⟨_, rfl⟩
      have hwa2 : wr.alloc (.cells #[.int .i64 v.kind, .int .i64 v.at', .int .i64 v.to, .int .i64 v.n, .slice xa v.b.length xc] 40) = wa := hwa
      rw [hwa] at HA
      try rw [hwa2]
      try simp only [hmb]
      clear hwa hwa2 hmb c0 c1 c2 c3 c4 HL
      have d4 : wa.cell? ⟨mb, 4, none⟩ = some (.slice xa v.b.length xc) := HA.cell 0 4 rfl rfl
      by_cases hbig : 200 < v.b.length
      · have z4 : decide ((200 : Int) < (v.b.length : Int)) = true := by simp; omega
        go_wp2
        go_ret
        exact ⟨rfl, HA.below (Nat.le_refl _) (fun _ h => h.elim)⟩
      have z4 : decide ((200 : Int) < (v.b.length : Int)) = false := by simp; omega
      go_upto_region 14 with (fail)
      clear d4 z4
      go_cut [69] from 53 to 69 (fun p wx => p = .bool false ∧ ∃ (r : RogM) (iv iv2 : Value), r.Good ∧ St (fun _ => False) w wx [Blk mb (mvCells v (.slice xa v.b.length xc)) 40, RogB b bs iv, StoreAt bs r.s, Imgs iv r.imgs, RrB b2 bs2 iv2, RefAt bs2 r.s, TImgs iv2 r.imgs])
      case first =>
        by_cases hnk : k < notes.length
        · have z5 : decide ((k : Int) < (notes.length : Int)) = true := by simp; omega
          have hki2 : (k : Int) < (notes.length : Int) := by omega
          obtain ⟨nb, no, rfl, hnc⟩ : ∃ b o, nd = some ⟨b, o, none⟩ ∧ wa.cell? ⟨b, o + k, none⟩ = some (.bool notes[k]) := by
            obtain ⟨ad', cap', e, _, hc⟩ := hnh.out
            injection e with e _ _
            obtain ⟨b, o, rfl, hb, hS, hcc⟩ := hc (by rintro rfl; simp at hnk)
            exact ⟨b, o, e, (World.cell?_of_block (w := w) (HA.kept.block b hb hS)).trans (hcc k hnk)⟩
          obtain ⟨ct, hct⟩ : ∃ ct, notes[k] = ct := ⟨_, rfl⟩
          rw [hct] at hnc
          clear hct
          cases ct with
          | true =>
            obtain ⟨n1, hn1'⟩ : ∃ n1, r.note.imgs.length = n1 := ⟨_, rfl⟩
            have hg' := hg.note
            have kn := fun (w' : World) (h : St (fun _ => False) w w' [Blk mb (mvCells v (.slice xa v.b.length xc)) 40, RogB b bs iv, StoreAt bs r.s, Imgs iv r.imgs, RrB b2 bs2 iv2, RefAt bs2 r.s, TImgs iv2 r.imgs]) => show Calls Tryd.prog 10 #[.pointer (some ⟨b, 0, none⟩)] w' fun e w2 => ∃ iv', e = .returned (.int .i64 n1) ∧ St (fun _ => False) w w2 [RogB b bs iv', StoreAt bs r.s, Imgs iv' r.note.imgs, Blk mb (mvCells v (.slice xa v.b.length xc)) 40, RrB b2 bs2 iv2, RefAt bs2 r.s, TImgs iv2 r.imgs] by
              obtain ⟨S1, K1, G1⟩ := St.call (l1 := [RogB b bs iv, StoreAt bs r.s, Imgs iv r.imgs]) (h.pick [1, 2, 3, 0, 4, 5, 6])
              refine (rogue_note hg K1).mono ?_
              rintro e w2 ⟨iv', rfl, H2⟩
              exact ⟨iv', by rw [hn1'], G1 _ _ H2⟩
            have km := fun (w' : World) (iv' : Value) (h : St (fun _ => False) w w' [RogB b bs iv', StoreAt bs r.s, Imgs iv' r.note.imgs, Blk mb (mvCells v (.slice xa v.b.length xc)) 40, RrB b2 bs2 iv2, RefAt bs2 r.s, TImgs iv2 r.imgs]) => show Calls Tryd.prog 11 #[.pointer (some ⟨b2, 0, none⟩)] w' fun e w2 => ∃ iv3, e = .returned (.int .i64 n1) ∧ St (fun _ => False) w w2 [RrB b2 bs2 iv3, RefAt bs2 r.s, TImgs iv3 r.note.imgs, RogB b bs iv', StoreAt bs r.s, Imgs iv' r.note.imgs, Blk mb (mvCells v (.slice xa v.b.length xc)) 40] by
              obtain ⟨S1, K1, G1⟩ := St.call (l1 := [RrB b2 bs2 iv2, RefAt bs2 r.s, TImgs iv2 r.imgs]) (h.pick [4, 5, 6, 0, 1, 2, 3])
              refine (ref24_note hg K1).mono ?_
              rintro e w2 ⟨iv', rfl, H2⟩
              exact ⟨iv', by rw [hn1'], G1 _ _ H2⟩
            have hz := Lib.hid hn1'
            clear hn1'
            go_wp2_with (first
              | (go_at_call 10; go_must (refine (kn _ HA).mono ?_; rintro e w6 ⟨iv3, rfl, H6⟩))
              | (go_at_call 11; go_must (refine (km _ _ H6).mono ?_; rintro e w7 ⟨iv4, rfl, H7⟩)))
            go_meet
            exact ⟨rfl, r.note, iv3, iv4, hg', H7.pick [6, 3, 4, 5, 0, 1, 2]⟩
          | false =>
            go_wp2
            go_meet
            exact ⟨rfl, r, iv, iv2, hg, HA⟩
        · have z5 : decide ((k : Int) < (notes.length : Int)) = false := by simp; omega
          go_wp2
          go_meet
          exact ⟨rfl, r, iv, iv2, hg, HA⟩
      case rest =>
        clear HA hg
        obtain ⟨rfl, ⟨s, ims⟩, iv3, iv4, hg, HC⟩ := hcut
        obtain ⟨a1, p1, rfl⟩ := imgs_shape (HC.pick [3])
        obtain ⟨a2, p2, rfl⟩ := imgs_shape (HC.pick [6])
        simp only at HC
        obtain ⟨n, hnn⟩ : ∃ n, ims.length = n := ⟨_, rfl⟩
        rw [hnn] at HC
        have hg2 := hg.do v
        have him := do_imgs ⟨s, ims⟩ v
        obtain ⟨R, hR⟩ : ∃ R, RogM.do ⟨s, ims⟩ v = R := ⟨_, rfl⟩
        rw [hR] at hg2 him
        obtain ⟨ok, s2, ims2⟩ := R
        simp only at him hg2
        have him := him.symm
        subst him
        have hRh := Lib.hid hR
        have hnnh := Lib.hid hnn
        clear hR hnn
        have hok : (ok == ok) = true := by simp
        go_upto_region 16 with (fail)
        refine wp_script [(0, false), (1, false), (3, false), (4, false), (2, true), (5, true), (6, false), (7, false), (8, false), (11, false), (12, false), (13, false), (14, false), (9, true), (10, false), (15, false), (16, false), (17, false), (18, false), (19, false), (20, false), (21, false), (22, false), (23, false), (24, false), (25, false), (26, false), (27, false), (28, false), (29, false), (30, false), (31, false), (32, false)] (Fam fun w' => St (fun _ => False) w w' [Blk mb (mvCells v (.slice xa v.b.length xc)) 40, RogB b bs (.slice a1 n p1), RrB b2 bs2 (.slice a2 n p2)]) (fun w' => St (fun _ => False) w w' [Blk mb (mvCells v (.slice xa v.b.length xc)) 40, RogB b bs (.slice a1 n p1), StoreAt bs s, Imgs (.slice a1 n p1) ims, RrB b2 bs2 (.slice a2 n p2), RefAt bs2 s, TImgs (.slice a2 n p2) ims]) (by kernel_rfl) (by rfl) (by kernel_rfl) (by kernel_rfl) HC.drew (Fam.st (fun _ h => h.pick [0, 1, 4])) ?_
        iterate 4 first
          | (apply script_pass
             · rfl
             · rfl
             intro K hK
             go_simp
             refine hK _ ?_
             clear hK K)
          | (apply script_step
             · rfl
             · rfl
             · intro I hI w1 h1'
               have h1 := hI.2 _ h1'
               have m0 : w1.cell? ⟨mb, 0, none⟩ = some (.int .i64 v.kind) := h1.cell 0 0 rfl rfl
               have m1 : w1.cell? ⟨mb, 1, none⟩ = some (.int .i64 v.at') := h1.cell 0 1 rfl rfl
               have m2 : w1.cell? ⟨mb, 2, none⟩ = some (.int .i64 v.to) := h1.cell 0 2 rfl rfl
               have m3 : w1.cell? ⟨mb, 3, none⟩ = some (.int .i64 v.n) := h1.cell 0 3 rfl rfl
               have m4 : w1.cell? ⟨mb, 4, none⟩ = some (.slice xa v.b.length xc) := h1.cell 0 4 rfl rfl
               have q0 : w1.cell? ⟨b2, 0, none⟩ = some (.pointer (some ⟨bs2, 0, none⟩)) := h1.cell 2 0 rfl rfl
               have q1 : w1.cell? ⟨b2, 1, none⟩ = some (.slice a2 n p2) := h1.cell 2 1 rfl rfl
               first
                 | (go_simp
                    first
                      | rfl
                      | exact ⟨rfl, h1'⟩
                   )
             intro K hK
             go_simp
             refine hK _ ?_
             clear hK K)
        refine script_alone rfl rfl ?_
        intro V hV w1 h1
        go_simp
        obtain ⟨S1, K1, hS1, hC1, G1⟩ := St.call2 (l1 := [RogB b bs (.slice a1 n p1), StoreAt bs s, Imgs (.slice a1 n p1) ims]) (h1.pick [1, 2, 3, 0, 4, 5, 6])
        have kd := rogue_do (r := ⟨s, ims⟩) v (hvh.out.lent h1.kept hS1) hvl hg K1
        rw [hRh.out] at kd
        unfold mvCells at kd
        simp only at kd
        refine kd.mono ?_
        rintro e w2 ⟨rfl, H2⟩
        have H3 : St (fun _ => False) w w2 [Blk mb (mvCells v (.slice xa v.b.length xc)) 40, RogB b bs (.slice a1 n p1), StoreAt bs s2, Imgs (.slice a1 n p1) ims, RrB b2 bs2 (.slice a2 n p2), RefAt bs2 s, TImgs (.slice a2 n p2) ims] := (G1 _ _ H2).pick [3, 0, 1, 2, 4, 5, 6]
        clear kd K1 G1 hS1 hC1
        refine ⟨_, rfl, fun w' => St (fun _ => False) w w' [Blk mb (mvCells v (.slice xa v.b.length xc)) 40, RogB b bs (.slice a1 n p1), StoreAt bs s2, Imgs (.slice a1 n p1) ims, RrB b2 bs2 (.slice a2 n p2), RefAt bs2 s, TImgs (.slice a2 n p2) ims], hV _ _ _ (fun _ h => h) (Fam.st (fun _ h => h.pick [0, 1, 4])) ?_, H3⟩
        intro K hK
        go_simp
        refine hK _ ?_
        clear hK K hV V
        clear H2 H3 h1 w1 w2
        refine script_alone rfl rfl ?_
        intro V hV w1 h1
        go_simp
        obtain ⟨S1, K1, hS1, hC1, G1⟩ := St.call2 (l1 := [RrB b2 bs2 (.slice a2 n p2), RefAt bs2 s, TImgs (.slice a2 n p2) ims]) (h1.pick [4, 5, 6, 0, 1, 2, 3])
        have kd := ref24_do (r := ⟨s, ims⟩) v (hvh.out.lent h1.kept hS1) hg K1
        rw [hRh.out] at kd
        unfold mvCells at kd
        simp only at kd
        refine kd.mono ?_
        rintro e w2 ⟨rfl, H2⟩
        have H3 : St (fun _ => False) w w2 [Blk mb (mvCells v (.slice xa v.b.length xc)) 40, RogB b bs (.slice a1 n p1), StoreAt bs s2, Imgs (.slice a1 n p1) ims, RrB b2 bs2 (.slice a2 n p2), RefAt bs2 s2, TImgs (.slice a2 n p2) ims] := (G1 _ _ H2).pick [3, 4, 5, 6, 0, 1, 2]
        clear kd K1 G1 hS1 hC1
        refine ⟨_, rfl, fun w' => St (fun _ => False) w w' [Blk mb (mvCells v (.slice xa v.b.length xc)) 40, RogB b bs (.slice a1 n p1), StoreAt bs s2, Imgs (.slice a1 n p1) ims, RrB b2 bs2 (.slice a2 n p2), RefAt bs2 s2, TImgs (.slice a2 n p2) ims], hV _ _ _ (fun _ h => h) (Fam.st (fun _ h => h.pick [0, 1, 4])) ?_, H3⟩
        intro K hK
        go_simp
        refine hK _ ?_
        clear hK K hV V
        clear H2 H3 h1 w1 w2
        iterate 7 first
          | (apply script_pass
             · rfl
             · rfl
             intro K hK
             go_simp
             refine hK _ ?_
             clear hK K)
          | (apply script_step
             · rfl
             · rfl
             · intro I hI w1 h1'
               have h1 := hI.2 _ h1'
               have m0 : w1.cell? ⟨mb, 0, none⟩ = some (.int .i64 v.kind) := h1.cell 0 0 rfl rfl
               have m1 : w1.cell? ⟨mb, 1, none⟩ = some (.int .i64 v.at') := h1.cell 0 1 rfl rfl
               have m2 : w1.cell? ⟨mb, 2, none⟩ = some (.int .i64 v.to) := h1.cell 0 2 rfl rfl
               have m3 : w1.cell? ⟨mb, 3, none⟩ = some (.int .i64 v.n) := h1.cell 0 3 rfl rfl
               have m4 : w1.cell? ⟨mb, 4, none⟩ = some (.slice xa v.b.length xc) := h1.cell 0 4 rfl rfl
               have q0 : w1.cell? ⟨b2, 0, none⟩ = some (.pointer (some ⟨bs2, 0, none⟩)) := h1.cell 2 0 rfl rfl
               have q1 : w1.cell? ⟨b2, 1, none⟩ = some (.slice a2 n p2) := h1.cell 2 1 rfl rfl
               first
                 | (go_simp
                    first
                      | rfl
                      | exact ⟨rfl, h1'⟩
                   )
             intro K hK
             go_simp
             refine hK _ ?_
             clear hK K)
        refine script_alone rfl rfl ?_
        intro V hV w1 h1
        go_simp
        obtain ⟨S1, K1, G1⟩ := St.call (l1 := [StoreAt bs s2]) (h1.pick [2, 0, 1, 3, 4, 5, 6])
        refine (store_image hg2.s K1).mono ?_
        rintro e w2 ⟨v1, rfl, H2⟩
        obtain ⟨ai, ci, rfl, _, _⟩ := slice_form' (H2.row 0 rfl)
        have H3 : St (fun _ => False) w w2 [Row 5 1 (.slice ai (s2.last.length * 128) ci) (s2.last.length * 128) (bvs s2.last.flatten), Blk mb (mvCells v (.slice xa v.b.length xc)) 40, RogB b bs (.slice a1 n p1), StoreAt bs s2, Imgs (.slice a1 n p1) ims, RrB b2 bs2 (.slice a2 n p2), RefAt bs2 s2, TImgs (.slice a2 n p2) ims] := (G1 _ _ H2).pick [0, 2, 3, 1, 4, 5, 6, 7]
        clear K1 G1
        refine ⟨_, rfl, fun w' => St (fun _ => False) w w' [Row 5 1 (.slice ai (s2.last.length * 128) ci) (s2.last.length * 128) (bvs s2.last.flatten), Blk mb (mvCells v (.slice xa v.b.length xc)) 40, RogB b bs (.slice a1 n p1), StoreAt bs s2, Imgs (.slice a1 n p1) ims, RrB b2 bs2 (.slice a2 n p2), RefAt bs2 s2, TImgs (.slice a2 n p2) ims], hV _ _ _ (fun I hI => Fam.mono (fun w' h => St.pick (l := [Row 5 1 (.slice ai (s2.last.length * 128) ci) (s2.last.length * 128) (bvs s2.last.flatten), Blk mb (mvCells v (.slice xa v.b.length xc)) 40, RogB b bs (.slice a1 n p1), StoreAt bs s2, Imgs (.slice a1 n p1) ims, RrB b2 bs2 (.slice a2 n p2), RefAt bs2 s2, TImgs (.slice a2 n p2) ims]) h [1, 2, 5]) I hI) (Fam.st (B := fun w' => St (fun _ => False) w w' [Row 5 1 (.slice ai (s2.last.length * 128) ci) (s2.last.length * 128) (bvs s2.last.flatten), Blk mb (mvCells v (.slice xa v.b.length xc)) 40, RogB b bs (.slice a1 n p1), StoreAt bs s2, Imgs (.slice a1 n p1) ims, RrB b2 bs2 (.slice a2 n p2), RefAt bs2 s2, TImgs (.slice a2 n p2) ims]) (fun _ h => h)) ?_, H3⟩
        intro K hK
        go_simp
        refine hK _ ?_
        clear hK K hV V
        clear H2 H3 h1 w1 w2
        iterate 19 first
          | (apply script_pass
             · rfl
             · rfl
             intro K hK
             go_simp
             refine hK _ ?_
             clear hK K)
          | (apply script_step
             · rfl
             · rfl
             · intro I hI w1 h1'
               have h1 := hI.2 _ h1'
               have m0 : w1.cell? ⟨mb, 0, none⟩ = some (.int .i64 v.kind) := h1.cell 1 0 rfl rfl
               have m1 : w1.cell? ⟨mb, 1, none⟩ = some (.int .i64 v.at') := h1.cell 1 1 rfl rfl
               have m2 : w1.cell? ⟨mb, 2, none⟩ = some (.int .i64 v.to) := h1.cell 1 2 rfl rfl
               have m3 : w1.cell? ⟨mb, 3, none⟩ = some (.int .i64 v.n) := h1.cell 1 3 rfl rfl
               have m4 : w1.cell? ⟨mb, 4, none⟩ = some (.slice xa v.b.length xc) := h1.cell 1 4 rfl rfl
               have q0 : w1.cell? ⟨b2, 0, none⟩ = some (.pointer (some ⟨bs2, 0, none⟩)) := h1.cell 5 0 rfl rfl
               have q1 : w1.cell? ⟨b2, 1, none⟩ = some (.slice a2 n p2) := h1.cell 5 1 rfl rfl
               have hcv := own_text' (h1.row 0 rfl)
               have n1 := ref_image hg2.s (h1.pick [6]).sep
               unfold textV StM.image at n1
               have n2 := rogue_images (h1.pick [2]).sep
               have n3 := rogue_do_nil (cs := mvCells v (.slice xa v.b.length xc)) w1
               unfold mvCells at n3
               first
                 | (go_simp
                    first
                      | rfl
                      | exact ⟨rfl, h1'⟩
                      | (go_at_call 15; with_reducible exact Fam.call hI h1' n1)
                      | (go_at_call 16; with_reducible exact Fam.call0 h1' n2)
                      | (go_at_call 12; with_reducible exact Fam.call hI h1' n3)
                   )
             intro K hK
             go_simp
             refine hK _ ?_
             clear hK K)
        refine script_nil ?_
        intro w9 H9
        go_wp2
        go_roundw
        case rel => exact ⟨k + 1, ⟨s2, ims⟩, _, _, by omega, by go_num, hg2, H9.pick [2, 3, 4, 5, 6, 7]⟩
        case measure => simp [intOf]; omega
    · obtain rfl : k = l.length := by omega
      have kr := fun w' (hk : Kept (fun _ => False) w w') => rogue_run_nil (hlh.out.later hk)
      go_wp2_with (first
        | (go_at_call 10; go_must (refine (rogue_note_nil _).mono ?_; rintro e wx ⟨rfl, rfl⟩))
        | (go_at_call 16; go_must (refine (rogue_images_nil _).mono ?_; rintro e wx ⟨rfl, rfl⟩))
        | (go_at_call 17; go_must (refine (St.callPast (kr _ HL.kept) HL).mono ?_; rintro e wy ⟨rfl, HY⟩)))
      go_ret
      exact ⟨rfl, HY.below (Nat.le_refl _) (fun _ h => h.elim)⟩

end Go.Proofs.YtaafedpjifaghaaDoor

/- Moves as inputs: what a cell list that reads as a move, or as a list of moves, holds. -/
set_option linter.unusedVariables false
set_option linter.unusedSimpArgs false
namespace Go.Proofs.YtaafedpjifaghaaDoor
open Go.ChangeShapes Go.WideShapes Go.ChangeAt Go.RowKit

theorem mv_five {l : List Value} (h : l.length = 5) : ∃ a b c d e, l = [a, b, c, d, e] := by
  match l, h with
  | [a, b, c, d, e], _ => exact ⟨a, b, c, d, e, rfl⟩
theorem i64_wf {n : Int} (h : (Lit.int .i64 n).wf = true) : -9223372036854775808 ≤ n ∧ n ≤ 9223372036854775807 := by
  simp only [Lit.wf, Bool.and_eq_true, decide_eq_true_eq] at h
  simp [IntKind.min, IntKind.max, IntKind.signed, IntKind.bits] at h
  exact h
theorem move_read {w : World} {cs : List Value} (h : R Tryd.prog w 40 cs) : ∃ x : Mv × Value, cs = (mvCells x.1 x.2).toList ∧ BytesRO (fun _ => False) w x.2 x.1.b ∧ x.1.b.length ≤ 9223372036854775807 ∧
    ((-9223372036854775808 ≤ x.1.at' ∧ x.1.at' ≤ 9223372036854775807) ∧ (-9223372036854775808 ≤ x.1.to ∧ x.1.to ≤ 9223372036854775807) ∧ (-9223372036854775808 ≤ x.1.n ∧ x.1.n ≤ 9223372036854775807)) := by
  have hl : cs.length = 5 := (R.struct Tryd.underlying40 h).1.trans (by kernel_rfl)
  obtain ⟨c0, c1, c2, c3, c4, rfl⟩ := mv_five hl
  have r0 : R Tryd.prog w 3 [c0] := R.field Tryd.underlying40 h 0 rfl (o := 0) (n := 1) rfl rfl (by kernel_rfl)
  have r1 : R Tryd.prog w 3 [c1] := R.field Tryd.underlying40 h 1 rfl (o := 1) (n := 1) rfl rfl (by kernel_rfl)
  have r2 : R Tryd.prog w 3 [c2] := R.field Tryd.underlying40 h 2 rfl (o := 2) (n := 1) rfl rfl (by kernel_rfl)
  have r3 : R Tryd.prog w 3 [c3] := R.field Tryd.underlying40 h 3 rfl (o := 3) (n := 1) rfl rfl (by kernel_rfl)
  have r4 : R Tryd.prog w 38 [c4] := R.field Tryd.underlying40 h 4 rfl (o := 4) (n := 1) rfl rfl (by kernel_rfl)
  obtain ⟨n0, e0, b0⟩ := R.int Tryd.underlying3 r0
  obtain ⟨n1, e1, b1⟩ := R.int Tryd.underlying3 r1
  obtain ⟨n2, e2, b2⟩ := R.int Tryd.underlying3 r2
  obtain ⟨n3, e3, b3⟩ := R.int Tryd.underlying3 r3
  obtain ⟨v4, l4, e4, h4, h4'⟩ := R.bytes Tryd.underlying38 Tryd.underlying5 (by kernel_rfl) r4
  simp only [List.cons.injEq, and_true] at e0 e1 e2 e3 e4
  subst e0 e1 e2 e3 e4
  exact ⟨(⟨n0, n1, n2, n3, l4⟩, c4), rfl, h4, h4', i64_wf b1, i64_wf b2, i64_wf b3⟩
theorem moves_read {w : World} {cs : List Value} (h : R Tryd.prog w 22 cs) : ∃ v l, cs = [v] ∧ MvsRO (fun _ => False) w v l := by
  obtain ⟨ao, cap, l, rfl, h1, h2, h3⟩ := R.list (p := fun cs (x : Mv × Value) => cs = (mvCells x.1 x.2).toList ∧ BytesRO (fun _ => False) w x.2 x.1.b ∧ x.1.b.length ≤ 9223372036854775807)
    Tryd.underlying22 (size := 5) (by kernel_rfl) (by omega) (fun cs' h => by obtain ⟨x, e1, e2, e3, _⟩ := move_read h; exact ⟨x, e1, e2, e3⟩) h
  refine ⟨_, l, rfl, ao, cap, rfl, h2, fun x hx => ?_, fun hl => ?_⟩
  · obtain ⟨b, o, _, _, hc⟩ := h3 (fun h => by subst h; simp at hx)
    obtain ⟨i, hi⟩ := List.getElem?_of_mem hx
    obtain ⟨cs', _, _, _, g⟩ := hc i x hi
    exact g
  · obtain ⟨b, o, rfl, hb, hc⟩ := h3 hl
    refine ⟨b, o, rfl, hb, id, fun i x hi => ?_⟩
    obtain ⟨cs', _, g2, rfl, _⟩ := hc i x hi
    exact g2

end Go.Proofs.YtaafedpjifaghaaDoor

/- The step from a contract to a row that lists variables: the condition and the world's shape are handed to the contract; what the listed variables then hold. -/
set_option linter.unusedVariables false
set_option linter.unusedSimpArgs false
namespace Go.Proofs.YtaafedpjifaghaaDoor
open Go.ChangeShapes Go.WideShapes Go.ChangeAt Go.RowKit

theorem returns_laid {H : Type} {enc : TypeId × Value → H} {a : Assume} {C : Checked} {os : Os} {f : FuncId} {fn : Func} {s : ChangeSpec} {conds : List PathCond} {apart fresh handsOn again : Bool} {laid : List (String × DataW Unit)}
    (own : ownKnob C.prog.godebug = none) (started : os.Started) (noInit : C.prog.inits.idxOf? f = none) (hfn : C.prog.funcs[f]? = some fn)
    (witness : ∃ (w : World) (tape : Tape) (i : Input), w.os = os ∧ (w.forCall tape i).Shaped C.prog ∧ i.vars = [] ∧ Input.okWide C.prog (w.forCall tape i) .any w.heap.size f i ∧
      ((s.pre enc C.prog fn conds apart (w.forCall tape i).memory i.args ∧ laidMetH C.prog laid (w.forCall tape i).memory) ∧ sizedMet enc C.prog fn (OpenSpec.ofChange s) apart (w.forCall tape i).memory i.args) ∧ a.holds C.prog (lone (Frame.enter C.prog f i.args .normal) [] (w.forCall tape i)))
    (contract : ∀ (W : World) (base : Nat) (args : Array Value) (ds gs : List (DataW H)) (before : List MemPlace),
      (∀ (j : Nat) t v, fn.params[j]? = some t → args[j]? = some v → Value.okWide C.prog W .any base t v) →
      DataW.Whole enc C.prog fn.params.toList s.vars apart W args.toList ds gs before → W.ShapedOpen C.prog → laidMetH C.prog laid W →
      Calls C.prog f args W fun e W' => ∃ v, e = .returned v ∧ s.post enc C.prog fn apart fresh handsOn again W args v W') :
    ReturnsInHanded a C os f .any (fun w args => (s.pre enc C.prog fn conds apart w args ∧ laidMetH C.prog laid w) ∧ sizedMet enc C.prog fn (OpenSpec.ofChange s) apart w args) (s.post enc C.prog fn apart fresh handsOn again) := by
  refine returnsInHanded_of_calls own started noInit witness ?_
  intro w tape i _ hsh _ hok hpre _
  obtain ⟨_, _, _, fn', hfn', _, _, _, _, hval⟩ := hok
  obtain rfl : fn' = fn := Option.some.inj (hfn'.symm.trans hfn)
  obtain ⟨⟨⟨ds, gs, before, hw, _⟩, hl⟩, _⟩ := hpre
  refine (contract (w.forCall tape i) w.heap.size i.args ds gs before hval (DataW.Whole.of_heap (w' := w.forCall tape i) (by rfl) hw) hsh (hl.of_heap (by rfl))).mono fun e W' ⟨v, he, hp⟩ => ?_
  subst he
  exact ChangeSpec.post_blind hp

/-- A variable of one integer, whatever it holds. -/
theorem var_shaped {P : Program} {w : World} {n : String} {g : Nat} {t : TypeId} {zero : Array Value} {k : IntKind} (h : w.ShapedOpen P) (hn : P.globalNamed n = some g) (hg : g < P.globals.size)
    (h0 : ((begin P (fun _ _ => 0) default).world.heap[g]?).bind Obj.row? = some (zero, t)) (hz : zero.size = 1)
    (hb : P.buildable t = true) (hc : P.cellTypes P.depth t = some [t]) (hu : P.underlying t = some (.int k)) : ∃ m, w.var? P n = some #[.int k m] := by
  obtain ⟨m, hm⟩ := cell_of_shapedOpen_int h hg h0 hz hb hc hu
  obtain ⟨cs, hh, hs, hr⟩ := h.1 g zero t hg h0
  refine ⟨m, ?_⟩
  unfold World.var?
  rw [hn]
  obtain ⟨l⟩ := cs
  simp only [World.cell?, hh] at hm
  match l, hs, hm with
  | [c], _, hm =>
    have hm : c = .int k m := by simpa using hm
    subst hm
    simp [hh]
  | [], hs, _ => rw [hz] at hs; simp at hs
  | a :: b :: r, hs, _ => rw [hz] at hs; simp at hs

theorem err_star : "*" ++ "errors.errorString" = "*errors.errorString" := by decide
theorem err_row (u : TypeId) (h : Tryd.prog.typeName? 3 u = some "*errors.errorString") : u = 150 :=
  typeName_ptr_named (nm := "errors.errorString") (by rw [err_star]; kernel_rfl) (by kernel_rfl) (by decide) u (by rw [err_star]; exact h)
theorem cells_err : Tryd.prog.cellsOf 152 = 1 := by kernel_rfl
theorem cells_str : Tryd.prog.cellsOf 9 = 1 := by kernel_rfl
theorem g_syn : Tryd.prog.globalNamed "strconv.ErrSyntax" = some 0 := by kernel_rfl
theorem g_rng : Tryd.prog.globalNamed "strconv.ErrRange" = some 1 := by kernel_rfl
theorem g_max : Tryd.prog.globalNamed "internal/bytealg.MaxLen" = some 2 := by kernel_rfl
theorem g_pow : Tryd.prog.globalNamed "internal/strconv.uint64pow10" = some 3 := by kernel_rfl
/-- What the listed variables hold. -/
theorem vars_of_rest {W : World} (hs : W.ShapedOpen Tryd.prog) {r1 r2 : List (String × DataW Unit)}
    (hp : laidMet Tryd.prog (("internal/strconv.uint64pow10", Lib.tabData .u64 Lib.pow10Tab) :: r1) W)
    (he : laidMet Tryd.prog (("strconv.ErrRange", Rows.laid_strconv_ErrRange) :: ("strconv.ErrSyntax", Rows.laid_strconv_ErrSyntax) :: r2) W) : Vars W := by
  obtain ⟨_, _, h1, _⟩ := laid_sentinel he g_rng (show _ = some 81 by kernel_rfl) Tryd.underlying81 err_row Tryd.underlying150 Tryd.underlying152 rfl rfl Tryd.underlying9 cells_err cells_str
  obtain ⟨_, _, h2, _⟩ := laid_sentinel he.tail g_syn (show _ = some 81 by kernel_rfl) Tryd.underlying81 err_row Tryd.underlying150 Tryd.underlying152 rfl rfl Tryd.underlying9 cells_err cells_str
  exact ⟨Lib.tabIs_of_head g_pow (show _ = some 154 by kernel_rfl) Tryd.underlying154 Tryd.underlying133 (by kernel_rfl) (by kernel_rfl) hp,
    var_shaped hs g_max (of_decide_eq_true (by kernel_rfl)) (show _ = some (#[.int .i64 0], 3) by kernel_rfl) rfl (by kernel_rfl) (by kernel_rfl) Tryd.underlying3, ⟨_, _, h2⟩, ⟨_, _, h1⟩⟩
theorem vars_of_laid {W : World} (h : laidMetH Tryd.prog [("math/bits.deBruijn32tab", Rows.laid_math_bits_deBruijn32tab), ("math/bits.deBruijn64tab", Rows.laid_math_bits_deBruijn64tab), ("internal/strconv.uint64pow10", Rows.laid_internal_strconv_uint64pow10), ("unicode/utf8.acceptRanges", Rows.laid_unicode_utf8_acceptRanges), ("strconv.ErrRange", Rows.laid_strconv_ErrRange), ("strconv.ErrSyntax", Rows.laid_strconv_ErrSyntax), ("unicode/utf8.first", Rows.laid_unicode_utf8_first)] W) (hs : W.ShapedOpen Tryd.prog) : Vars W := by
  rw [MakeChecks.laidMetH_plain _ _ _ (by kernel_rfl)] at h
  exact vars_of_rest hs h.tail.tail h.tail.tail.tail.tail

end Go.Proofs.YtaafedpjifaghaaDoor
