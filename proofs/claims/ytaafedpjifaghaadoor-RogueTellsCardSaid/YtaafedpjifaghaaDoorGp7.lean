import Derived.Test.YtaafedpjifaghaaDoorGp6
/- The walk of the rogue: moved, kind 6. Conditions: its blocks lie as its maker lays them. (Printed by gen_rgf.py.) -/
set_option linter.unusedVariables false
set_option linter.unusedSimpArgs false
namespace Go.Proofs.YtaafedpjifaghaaDoor
open Go.RowKit

set_option maxHeartbeats 4000000 in
set_option maxRecDepth 100000 in
theorem rogue_moved6 {b bs : Nat} {iv : Value} {r : RogM} (at' tt n : Int) (bb : List UInt8) (x : Value) {w : World} {S : Nat → Prop} (hgs : r.s.Good) (H : Sep w [RogB b bs iv, StoreAt bs r.s] S) :
    Calls Tryd.prog 30 #[.pointer (some ⟨b, 0, none⟩), .agg (mvCells ⟨6, at', tt, n, bb⟩ x)] w fun e w' => e = .returned (.bool (r.do ⟨6, at', tt, n, bb⟩).1) ∧ St S w w' [RogB b bs iv, StoreAt bs (r.do ⟨6, at', tt, n, bb⟩).2.s] := by
  have hcnt := hgs.count
  have hif := hgs.full
  obtain ⟨mb, hmb⟩ : ∃ g, w.heap.size = g := ⟨_, rfl⟩
  have HA : St S w _ [Blk mb (mvCells ⟨6, at', tt, n, bb⟩ x) 40, RogB b bs iv, StoreAt bs r.s] := (St.refl H).allocAt hmb (mvCells ⟨6, at', tt, n, bb⟩ x) 40
  have c0 : (w.alloc (.cells (mvCells ⟨6, at', tt, n, bb⟩ x) 40)).cell? ⟨b, 0, none⟩ = some (.pointer (some ⟨bs, 0, none⟩)) := HA.cell 1 0 rfl rfl
  obtain ⟨S0, K0, G0⟩ := St.call (l1 := [StoreAt bs r.s]) (HA.pick [2, 0, 1])
  have ki := store_image hgs K0
  by_cases h1 : r.s.among at' 1
  · obtain ⟨p, rfl, hp⟩ := among_one h1
    have hd1 : decide (r.s.among (p : Int) 1) = true := by simpa using h1
    by_cases h2 : r.s.among tt 1
    · obtain ⟨q, rfl, hq⟩ := among_one h2
      have hd2 : decide (r.s.among (q : Int) 1) = true := by simpa using h2
      have eq : (r.s.last.drop q).take 1 = [r.s.blk q] := take_one hq
      have ep : (r.s.last.drop p).take 1 = [r.s.blk p] := take_one hp
      have hf1 : ∀ x ∈ (r.s.last.drop p).take 1, x.length = 128 := fun x hx => hif x (List.mem_of_mem_drop (List.mem_of_mem_take hx))
      have hf2 : ∀ x ∈ (r.s.last.drop q).take 1, x.length = 128 := fun x hx => hif x (List.mem_of_mem_drop (List.mem_of_mem_take hx))
      have hl1 : ((r.s.last.drop p).take 1).length = 1 := by rw [ep]; rfl
      have hl2 : ((r.s.last.drop q).take 1).length = 1 := by rw [eq]; rfl
      have hfin := Lib.hid (show r.do ⟨6, p, q, n, bb⟩ = (true, r.put (r.s.lays q ((r.s.last.drop p).take 1))) by
        unfold RogM.do
        rw [ep]
        simp [h1, h2])
      have hg1 := lays_good p ((r.s.last.drop q).take 1) r.s hgs
      have hll := lays_len p ((r.s.last.drop q).take 1) r.s
      clear h1 h2 ep eq
      go_enter Tryd.func30, Tryd.ntmps30
      go_upto_region 6 with (go_at_call 14; go_must (refine ki.mono ?_; rintro e w1 ⟨vI, rfl, H0⟩; have H1 : St S w w1 [Row 5 1 vI (r.s.last.length * 128) (bvs r.s.last.flatten), Blk mb (mvCells ⟨6, p, q, n, bb⟩ x) 40, RogB b bs iv, StoreAt bs r.s] := (G0 _ _ H0).pick [0, 2, 3, 1]; clear c0; have c0 : w1.cell? ⟨mb, 0, none⟩ = some (.int .i64 6) := H1.cell 1 0 rfl rfl))
      clear c0
      refine wp_script [(0, false), (1, false), (2, false), (3, true), (4, false), (5, false), (6, false), (7, false), (8, true), (9, false), (10, false), (11, false), (12, false), (13, false), (14, false), (15, false), (16, false), (17, true), (18, true), (19, false), (20, false)] (Fam fun w' => St S w w' [Blk mb (mvCells ⟨6, p, q, n, bb⟩ x) 40, RogB b bs iv]) (fun w' => St S w w' [Row 5 1 vI (r.s.last.length * 128) (bvs r.s.last.flatten), Blk mb (mvCells ⟨6, p, q, n, bb⟩ x) 40, RogB b bs iv, StoreAt bs r.s]) (by kernel_rfl) (by rfl) (by kernel_rfl) (by kernel_rfl) H1.drew (Fam.st (fun _ h => h.pick [1, 2])) ?_
      iterate 3 first
        | (apply script_pass
           · rfl
           · rfl
           intro K hK
           go_simp
           refine hK _ ?_
           clear hK K)
        | (apply script_step
           · rfl
           · rfl
           · intro I hI w1 h1'
             have h1 := hI.2 _ h1'
             have d1 : w1.cell? ⟨mb, 1, none⟩ = some (.int .i64 p) := h1.cell 0 1 rfl rfl
             have d2 : w1.cell? ⟨mb, 2, none⟩ = some (.int .i64 q) := h1.cell 0 2 rfl rfl
             have d3 : w1.cell? ⟨mb, 3, none⟩ = some (.int .i64 n) := h1.cell 0 3 rfl rfl
             first
               | (go_simp
                  first
                    | rfl
                    | exact ⟨rfl, h1'⟩
                 )
           intro K hK
           go_simp
           refine hK _ ?_
           clear hK K)
      refine script_alone rfl rfl ?_
      intro V hV w1 h1
      go_simp
      refine (in_part (p : Int) 1 hgs hd1 (h1.pick [2, 3, 0, 1])).mono ?_
      rintro e w2 ⟨rfl, H2⟩
      refine ⟨_, rfl, fun w' => St S w w' [Row 5 1 vI (r.s.last.length * 128) (bvs r.s.last.flatten), Blk mb (mvCells ⟨6, p, q, n, bb⟩ x) 40, RogB b bs iv, StoreAt bs r.s], hV _ _ _ (fun _ h => h) (Fam.st (fun _ h => h.pick [1, 2])) ?_, H2.pick [2, 3, 0, 1]⟩
      intro K hK
      go_simp
      refine hK _ ?_
      clear hK K hV V
      clear H2 h1 w1 w2
      iterate 4 first
        | (apply script_pass
           · rfl
           · rfl
           intro K hK
           go_simp
           refine hK _ ?_
           clear hK K)
        | (apply script_step
           · rfl
           · rfl
           · intro I hI w1 h1'
             have h1 := hI.2 _ h1'
             have d1 : w1.cell? ⟨mb, 1, none⟩ = some (.int .i64 p) := h1.cell 0 1 rfl rfl
             have d2 : w1.cell? ⟨mb, 2, none⟩ = some (.int .i64 q) := h1.cell 0 2 rfl rfl
             have d3 : w1.cell? ⟨mb, 3, none⟩ = some (.int .i64 n) := h1.cell 0 3 rfl rfl
             first
               | (go_simp
                  first
                    | rfl
                    | exact ⟨rfl, h1'⟩
                 )
           intro K hK
           go_simp
           refine hK _ ?_
           clear hK K)
      refine script_alone rfl rfl ?_
      intro V hV w1 h1
      go_simp
      refine (in_part (q : Int) 1 hgs hd2 (h1.pick [2, 3, 0, 1])).mono ?_
      rintro e w2 ⟨rfl, H2⟩
      refine ⟨_, rfl, fun w' => St S w w' [Row 5 1 vI (r.s.last.length * 128) (bvs r.s.last.flatten), Blk mb (mvCells ⟨6, p, q, n, bb⟩ x) 40, RogB b bs iv, StoreAt bs r.s], hV _ _ _ (fun _ h => h) (Fam.st (fun _ h => h.pick [1, 2])) ?_, H2.pick [2, 3, 0, 1]⟩
      intro K hK
      go_simp
      refine hK _ ?_
      clear hK K hV V
      clear H2 h1 w1 w2
      iterate 8 first
        | (apply script_pass
           · rfl
           · rfl
           intro K hK
           go_simp
           refine hK _ ?_
           clear hK K)
        | (apply script_step
           · rfl
           · rfl
           · intro I hI w1 h1'
             have h1 := hI.2 _ h1'
             have d1 : w1.cell? ⟨mb, 1, none⟩ = some (.int .i64 p) := h1.cell 0 1 rfl rfl
             have d2 : w1.cell? ⟨mb, 2, none⟩ = some (.int .i64 q) := h1.cell 0 2 rfl rfl
             have d3 : w1.cell? ⟨mb, 3, none⟩ = some (.int .i64 n) := h1.cell 0 3 rfl rfl
             first
               | (go_simp
                  first
                    | rfl
                    | exact ⟨rfl, h1'⟩
                 )
           intro K hK
           go_simp
           refine hK _ ?_
           clear hK K)
      refine script_alone rfl rfl ?_
      intro V hV w1 h1
      go_simp
      obtain ⟨S1, q1⟩ := h1.sep.get 0 rfl
      refine (blocks_part p 1 hif (by omega) (by omega) (by omega) (ro_row q1 (fun _ _ h => h)) h1).mono ?_
      rintro e w2 ⟨v1, rfl, H2⟩
      clear q1
      refine ⟨_, rfl, fun w' => St S w w' [Row 5 1 v1 (128 * 1) (bvs ((r.s.last.drop p).take 1).flatten), Row 5 1 vI (r.s.last.length * 128) (bvs r.s.last.flatten), Blk mb (mvCells ⟨6, p, q, n, bb⟩ x) 40, RogB b bs iv, StoreAt bs r.s], hV _ _ _ (fun _ h => h) (Fam.st (fun _ h => h.pick [2, 3])) ?_, H2⟩
      intro K hK
      go_simp
      refine hK _ ?_
      clear hK K hV V
      clear H2 h1 w1 w2
      refine script_alone rfl rfl ?_
      intro V hV w1 h1
      go_simp
      refine (lay_row q hgs hf1 (by omega) (h1.pick [3, 4, 0, 1, 2])).mono ?_
      rintro e w2 ⟨rfl, H2⟩
      refine ⟨_, rfl, fun w' => St S w w' [Row 5 1 vI (r.s.last.length * 128) (bvs r.s.last.flatten), Blk mb (mvCells ⟨6, p, q, n, bb⟩ x) 40, RogB b bs iv, StoreAt bs (r.s.lays q ((r.s.last.drop p).take 1))], hV _ _ _ (fun _ h => h) (Fam.st (fun _ h => h.pick [1, 2])) ?_, H2.pick [3, 4, 0, 1]⟩
      intro K hK
      go_simp
      refine hK _ ?_
      clear hK K hV V
      clear H2 h1 w1 w2
      iterate 2 first
        | (apply script_pass
           · rfl
           · rfl
           intro K hK
           go_simp
           refine hK _ ?_
           clear hK K)
        | (apply script_step
           · rfl
           · rfl
           · intro I hI w1 h1'
             have h1 := hI.2 _ h1'
             have d1 : w1.cell? ⟨mb, 1, none⟩ = some (.int .i64 p) := h1.cell 0 1 rfl rfl
             have d2 : w1.cell? ⟨mb, 2, none⟩ = some (.int .i64 q) := h1.cell 0 2 rfl rfl
             have d3 : w1.cell? ⟨mb, 3, none⟩ = some (.int .i64 n) := h1.cell 0 3 rfl rfl
             first
               | (go_simp
                  first
                    | rfl
                    | exact ⟨rfl, h1'⟩
                 )
           intro K hK
           go_simp
           refine hK _ ?_
           clear hK K)
      refine script_nil ?_
      intro w9 H9
      go_wp2
      go_ret
      rw [hfin.out]
      exact ⟨rfl, H9.pick [2, 3]⟩
    · have hd2 : decide (r.s.among tt 1) = false := by simpa using h2
      have hfin := Lib.hid (show r.do ⟨6, p, tt, n, bb⟩ = (false, r) by
        unfold RogM.do
        simp [h2])
      clear h1 h2
      go_enter Tryd.func30, Tryd.ntmps30
      go_upto_region 6 with (go_at_call 14; go_must (refine ki.mono ?_; rintro e w1 ⟨vI, rfl, H0⟩; have H1 : St S w w1 [Row 5 1 vI (r.s.last.length * 128) (bvs r.s.last.flatten), Blk mb (mvCells ⟨6, p, tt, n, bb⟩ x) 40, RogB b bs iv, StoreAt bs r.s] := (G0 _ _ H0).pick [0, 2, 3, 1]; clear c0; have c0 : w1.cell? ⟨mb, 0, none⟩ = some (.int .i64 6) := H1.cell 1 0 rfl rfl))
      clear c0
      have H1' := H1.pick [2, 3, 0, 1]
      refine wp_calm (fun w' => St S w w' [RogB b bs iv, StoreAt bs r.s, Row 5 1 vI (r.s.last.length * 128) (bvs r.s.last.flatten), Blk mb (mvCells ⟨6, p, tt, n, bb⟩ x) 40]) (by kernel_rfl) (by kernel_rfl) (H1'.drew) ?_
      iterate 21 first
        | (apply calm_pass
           · rfl
           intro K hK
           go_simp
           refine hK _ ?_
           clear hK K)
        | (apply calm_step
           · rfl
           · intro w1 h1
             have d1 : w1.cell? ⟨mb, 1, none⟩ = some (.int .i64 p) := h1.cell 3 1 rfl rfl
             have d2 : w1.cell? ⟨mb, 2, none⟩ = some (.int .i64 tt) := h1.cell 3 2 rfl rfl
             have d3 : w1.cell? ⟨mb, 3, none⟩ = some (.int .i64 n) := h1.cell 3 3 rfl rfl
             first
               | (go_simp
                  first
                    | rfl
                    | exact ⟨rfl, h1⟩
                    | (go_at_call 26; with_reducible exact in_part (p : Int) 1 hgs hd1 h1)
                    | (go_at_call 26; with_reducible exact in_part tt 1 hgs hd2 h1)
                 )
           intro K hK
           go_simp
           refine hK _ ?_
           clear hK K)
      refine calm_nil ?_
      intro w9 H9
      go_wp2
      go_ret
      rw [hfin.out]
      exact ⟨rfl, H9.pick [0, 1]⟩
  · have hd1 : decide (r.s.among at' 1) = false := by simpa using h1
    have hfin := Lib.hid (show r.do ⟨6, at', tt, n, bb⟩ = (false, r) by
      unfold RogM.do
      simp [h1])
    clear h1
    go_enter Tryd.func30, Tryd.ntmps30
    go_upto_region 6 with (go_at_call 14; go_must (refine ki.mono ?_; rintro e w1 ⟨vI, rfl, H0⟩; have H1 : St S w w1 [Row 5 1 vI (r.s.last.length * 128) (bvs r.s.last.flatten), Blk mb (mvCells ⟨6, at', tt, n, bb⟩ x) 40, RogB b bs iv, StoreAt bs r.s] := (G0 _ _ H0).pick [0, 2, 3, 1]; clear c0; have c0 : w1.cell? ⟨mb, 0, none⟩ = some (.int .i64 6) := H1.cell 1 0 rfl rfl))
    clear c0
    have H1' := H1.pick [2, 3, 0, 1]
    refine wp_calm (fun w' => St S w w' [RogB b bs iv, StoreAt bs r.s, Row 5 1 vI (r.s.last.length * 128) (bvs r.s.last.flatten), Blk mb (mvCells ⟨6, at', tt, n, bb⟩ x) 40]) (by kernel_rfl) (by kernel_rfl) (H1'.drew) ?_
    iterate 21 first
      | (apply calm_pass
         · rfl
         intro K hK
         go_simp
         refine hK _ ?_
         clear hK K)
      | (apply calm_step
         · rfl
         · intro w1 h1
           have d1 : w1.cell? ⟨mb, 1, none⟩ = some (.int .i64 at') := h1.cell 3 1 rfl rfl
           have d2 : w1.cell? ⟨mb, 2, none⟩ = some (.int .i64 tt) := h1.cell 3 2 rfl rfl
           have d3 : w1.cell? ⟨mb, 3, none⟩ = some (.int .i64 n) := h1.cell 3 3 rfl rfl
           first
             | (go_simp
                first
                  | rfl
                  | exact ⟨rfl, h1⟩
                  | (go_at_call 26; with_reducible exact in_part at' 1 hgs hd1 h1)
               )
         intro K hK
         go_simp
         refine hK _ ?_
         clear hK K)
    refine calm_nil ?_
    intro w9 H9
    go_wp2
    go_ret
    rw [hfin.out]
    exact ⟨rfl, H9.pick [0, 1]⟩
end Go.Proofs.YtaafedpjifaghaaDoor

/- The walk of the rogue: moved, kind 7. Conditions: its blocks lie as its maker lays them. (Printed by gen_rgf.py.) -/
set_option linter.unusedVariables false
set_option linter.unusedSimpArgs false
namespace Go.Proofs.YtaafedpjifaghaaDoor
open Go.RowKit

theorem len_part {b bs : Nat} {iv : Value} {m : StM} {w0 w : World} {L : List SP} {S : Nat → Prop} (H : St S w0 w (RogB b bs iv :: StoreAt bs m :: L)) :
    Calls Tryd.prog 51 #[.pointer (some ⟨bs, 0, none⟩)] w fun e w' => e = .returned (.int .i64 m.last.length) ∧ St S w0 w' (RogB b bs iv :: StoreAt bs m :: L) :=
  (store_len (H.front 1 rfl).sep).mono fun _ _ ⟨he, hw⟩ => ⟨he, hw ▸ H⟩
set_option maxHeartbeats 4000000 in
set_option maxRecDepth 100000 in
theorem rogue_moved7 {b bs : Nat} {iv : Value} {r : RogM} (at' tt n : Int) (bb : List UInt8) (x : Value) {w : World} {S : Nat → Prop} (hgs : r.s.Good) (H : Sep w [RogB b bs iv, StoreAt bs r.s] S) :
    Calls Tryd.prog 30 #[.pointer (some ⟨b, 0, none⟩), .agg (mvCells ⟨7, at', tt, n, bb⟩ x)] w fun e w' => e = .returned (.bool (r.do ⟨7, at', tt, n, bb⟩).1) ∧ St S w w' [RogB b bs iv, StoreAt bs (r.do ⟨7, at', tt, n, bb⟩).2.s] := by
  have hcnt := hgs.count
  have hif := hgs.full
  obtain ⟨mb, hmb⟩ : ∃ g, w.heap.size = g := ⟨_, rfl⟩
  have HA : St S w _ [Blk mb (mvCells ⟨7, at', tt, n, bb⟩ x) 40, RogB b bs iv, StoreAt bs r.s] := (St.refl H).allocAt hmb (mvCells ⟨7, at', tt, n, bb⟩ x) 40
  have c0 : (w.alloc (.cells (mvCells ⟨7, at', tt, n, bb⟩ x) 40)).cell? ⟨b, 0, none⟩ = some (.pointer (some ⟨bs, 0, none⟩)) := HA.cell 1 0 rfl rfl
  obtain ⟨S0, K0, G0⟩ := St.call (l1 := [StoreAt bs r.s]) (HA.pick [2, 0, 1])
  have ki := store_image hgs K0
  by_cases h1 : r.s.among at' n
  · obtain ⟨p, rfl⟩ := Int.eq_ofNat_of_zero_le h1.1
    have hd1 : decide (r.s.among (p : Int) n) = true := by simpa using h1
    obtain ⟨k, rfl⟩ : ∃ k : Nat, n = k := ⟨n.toNat, by have := h1.2.1; omega⟩
    have hk1 : 1 ≤ k := by have := h1.2.1; omega
    have hpk : p + k ≤ r.s.last.length := by have := h1.2.2; omega
    have z1 : IntKind.i64.wrap (-(p : Int)) = -(p : Int) := by rw [IntKind.wrap_i64]; omega
    by_cases h2 : -(p : Int) ≤ tt
    · have hd2 : decide (-(p : Int) ≤ tt) = true := by simpa using h2
      by_cases h3 : tt ≤ r.s.last.length
      · have hd3 : decide (tt ≤ (r.s.last.length : Int)) = true := by simpa using h3
        have z2 : IntKind.i64.wrap ((p : Int) + tt) = (p : Int) + tt := by rw [IntKind.wrap_i64]; omega
        by_cases h4 : r.s.among ((p : Int) + tt) k
        · have hd4 : decide (r.s.among ((p : Int) + tt) k) = true := by simpa using h4
          obtain ⟨q, hq⟩ := Int.eq_ofNat_of_zero_le h4.1
          have h5 : r.s.among (q : Int) k := by rw [← hq]; exact h4
          have hqk : q + k ≤ r.s.last.length := by have := h4.2.2; omega
          have hlk : ((r.s.last.drop p).take k).length = k := by rw [List.length_take, List.length_drop]; omega
          have hf1 : ∀ x ∈ (r.s.last.drop p).take k, x.length = 128 := fun x hx => hif x (List.mem_of_mem_drop (List.mem_of_mem_take hx))
          have hfin := Lib.hid (show r.do ⟨7, p, tt, k, bb⟩ = (true, r.put (r.s.lays q ((r.s.last.drop p).take k))) by
            unfold RogM.do
            simp [h1, h2, h3, h5, hq])
          have hd4 : decide (r.s.among (q : Int) k) = true := by simpa using h5
          have z2 : IntKind.i64.wrap (q : Int) = q := by rw [IntKind.wrap_i64]; omega
          clear h1 h2 h3 h4 h5
          go_enter Tryd.func30, Tryd.ntmps30
          go_upto_region 9 with (go_at_call 14; go_must (refine ki.mono ?_; rintro e w1 ⟨vI, rfl, H0⟩; have H1 : St S w w1 [Row 5 1 vI (r.s.last.length * 128) (bvs r.s.last.flatten), Blk mb (mvCells ⟨7, (p : Int), tt, (k : Int), bb⟩ x) 40, RogB b bs iv, StoreAt bs r.s] := (G0 _ _ H0).pick [0, 2, 3, 1]; clear c0; have c0 : w1.cell? ⟨mb, 0, none⟩ = some (.int .i64 7) := H1.cell 1 0 rfl rfl))
          clear c0
          have H1' := H1.pick [2, 3, 0, 1]
          refine wp_calm (fun w' => St S w w' [RogB b bs iv, StoreAt bs r.s, Row 5 1 vI (r.s.last.length * 128) (bvs r.s.last.flatten), Blk mb (mvCells ⟨7, (p : Int), tt, (k : Int), bb⟩ x) 40]) (by kernel_rfl) (by kernel_rfl) (H1'.drew) ?_
          iterate 36 first
            | (apply calm_pass
               · rfl
               intro K hK
               go_simp
               refine hK _ ?_
               clear hK K)
            | (apply calm_step
               · rfl
               · intro w1 h1
                 have d1 : w1.cell? ⟨mb, 1, none⟩ = some (.int .i64 (p : Int)) := h1.cell 3 1 rfl rfl
                 have d2 : w1.cell? ⟨mb, 2, none⟩ = some (.int .i64 tt) := h1.cell 3 2 rfl rfl
                 have d3 : w1.cell? ⟨mb, 3, none⟩ = some (.int .i64 (k : Int)) := h1.cell 3 3 rfl rfl
                 have e0 : w1.cell? ⟨b, 0, none⟩ = some (.pointer (some ⟨bs, 0, none⟩)) := h1.cell 0 0 rfl rfl
                 first
                   | (go_simp
                      first
                        | rfl
                        | exact ⟨rfl, h1⟩
                        | (go_at_call 26; with_reducible exact in_part (p : Int) (k : Int) hgs hd1 h1)
                        | (go_at_call 51; with_reducible exact len_part h1)
                        | (go_at_call 26; with_reducible exact in_part (q : Int) (k : Int) hgs hd4 h1)
                     )
               intro K hK
               go_simp
               refine hK _ ?_
               clear hK K)
          refine calm_nil ?_
          intro w8 H8
          have H8' := H8.pick [2, 3, 0, 1]
          go_upto_region 10 with (fail)
          refine wp_script [(0, false), (1, false), (2, false), (3, false), (4, false), (5, false), (6, false), (7, false), (8, false), (9, false), (10, false), (11, false), (12, false), (13, true), (14, true), (15, false), (16, false)] (Fam fun w' => St S w w' [Blk mb (mvCells ⟨7, (p : Int), tt, (k : Int), bb⟩ x) 40, RogB b bs iv]) (fun w' => St S w w' [Row 5 1 vI (r.s.last.length * 128) (bvs r.s.last.flatten), Blk mb (mvCells ⟨7, (p : Int), tt, (k : Int), bb⟩ x) 40, RogB b bs iv, StoreAt bs r.s]) (by kernel_rfl) (by rfl) (by kernel_rfl) (by kernel_rfl) H8'.drew (Fam.st (fun _ h => h.pick [1, 2])) ?_
          iterate 13 first
            | (apply script_pass
               · rfl
               · rfl
               intro K hK
               go_simp
               refine hK _ ?_
               clear hK K)
            | (apply script_step
               · rfl
               · rfl
               · intro I hI w1 h1'
                 have h1 := hI.2 _ h1'
                 have d1 : w1.cell? ⟨mb, 1, none⟩ = some (.int .i64 (p : Int)) := h1.cell 0 1 rfl rfl
                 have d2 : w1.cell? ⟨mb, 2, none⟩ = some (.int .i64 tt) := h1.cell 0 2 rfl rfl
                 have d3 : w1.cell? ⟨mb, 3, none⟩ = some (.int .i64 (k : Int)) := h1.cell 0 3 rfl rfl
                 first
                   | (go_simp
                      first
                        | rfl
                        | exact ⟨rfl, h1'⟩
                     )
               intro K hK
               go_simp
               refine hK _ ?_
               clear hK K)
          refine script_alone rfl rfl ?_
          intro V hV w1 h1
          go_simp
          obtain ⟨S1, q1⟩ := h1.sep.get 0 rfl
          refine (blocks_part p k hif (by omega) (by omega) (by omega) (ro_row q1 (fun _ _ h => h)) h1).mono ?_
          rintro e w2 ⟨v1, rfl, H2⟩
          clear q1
          refine ⟨_, rfl, fun w' => St S w w' [Row 5 1 v1 (128 * k) (bvs ((r.s.last.drop p).take k).flatten), Row 5 1 vI (r.s.last.length * 128) (bvs r.s.last.flatten), Blk mb (mvCells ⟨7, (p : Int), tt, (k : Int), bb⟩ x) 40, RogB b bs iv, StoreAt bs r.s], hV _ _ _ (fun _ h => h) (Fam.st (fun _ h => h.pick [2, 3])) ?_, H2⟩
          intro K hK
          go_simp
          refine hK _ ?_
          clear hK K hV V
          clear H2 h1 w1 w2
          refine script_alone rfl rfl ?_
          intro V hV w1 h1
          go_simp
          refine (lay_row q hgs hf1 (by omega) (h1.pick [3, 4, 0, 1, 2])).mono ?_
          rintro e w2 ⟨rfl, H2⟩
          refine ⟨_, rfl, fun w' => St S w w' [Row 5 1 vI (r.s.last.length * 128) (bvs r.s.last.flatten), Blk mb (mvCells ⟨7, (p : Int), tt, (k : Int), bb⟩ x) 40, RogB b bs iv, StoreAt bs (r.s.lays q ((r.s.last.drop p).take k))], hV _ _ _ (fun _ h => h) (Fam.st (fun _ h => h.pick [1, 2])) ?_, H2.pick [3, 4, 0, 1]⟩
          intro K hK
          go_simp
          refine hK _ ?_
          clear hK K hV V
          clear H2 h1 w1 w2
          iterate 2 first
            | (apply script_pass
               · rfl
               · rfl
               intro K hK
               go_simp
               refine hK _ ?_
               clear hK K)
            | (apply script_step
               · rfl
               · rfl
               · intro I hI w1 h1'
                 have h1 := hI.2 _ h1'
                 have d1 : w1.cell? ⟨mb, 1, none⟩ = some (.int .i64 (p : Int)) := h1.cell 0 1 rfl rfl
                 have d2 : w1.cell? ⟨mb, 2, none⟩ = some (.int .i64 tt) := h1.cell 0 2 rfl rfl
                 have d3 : w1.cell? ⟨mb, 3, none⟩ = some (.int .i64 (k : Int)) := h1.cell 0 3 rfl rfl
                 first
                   | (go_simp
                      first
                        | rfl
                        | exact ⟨rfl, h1'⟩
                     )
               intro K hK
               go_simp
               refine hK _ ?_
               clear hK K)
          refine script_nil ?_
          intro w9 H9
          go_wp2
          go_ret
          rw [hfin.out]
          exact ⟨rfl, H9.pick [2, 3]⟩
        · have hd4 : decide (r.s.among ((p : Int) + tt) k) = false := by simpa using h4
          have hfin := Lib.hid (show r.do ⟨7, p, tt, k, bb⟩ = (false, r) by
            unfold RogM.do
            simp [h4])
          clear h1 h2 h3 h4
          go_enter Tryd.func30, Tryd.ntmps30
          go_upto_region 9 with (go_at_call 14; go_must (refine ki.mono ?_; rintro e w1 ⟨vI, rfl, H0⟩; have H1 : St S w w1 [Row 5 1 vI (r.s.last.length * 128) (bvs r.s.last.flatten), Blk mb (mvCells ⟨7, (p : Int), tt, (k : Int), bb⟩ x) 40, RogB b bs iv, StoreAt bs r.s] := (G0 _ _ H0).pick [0, 2, 3, 1]; clear c0; have c0 : w1.cell? ⟨mb, 0, none⟩ = some (.int .i64 7) := H1.cell 1 0 rfl rfl))
          clear c0
          have H1' := H1.pick [2, 3, 0, 1]
          refine wp_calm (fun w' => St S w w' [RogB b bs iv, StoreAt bs r.s, Row 5 1 vI (r.s.last.length * 128) (bvs r.s.last.flatten), Blk mb (mvCells ⟨7, (p : Int), tt, (k : Int), bb⟩ x) 40]) (by kernel_rfl) (by kernel_rfl) (H1'.drew) ?_
          iterate 36 first
            | (apply calm_pass
               · rfl
               intro K hK
               go_simp
               refine hK _ ?_
               clear hK K)
            | (apply calm_step
               · rfl
               · intro w1 h1
                 have d1 : w1.cell? ⟨mb, 1, none⟩ = some (.int .i64 (p : Int)) := h1.cell 3 1 rfl rfl
                 have d2 : w1.cell? ⟨mb, 2, none⟩ = some (.int .i64 tt) := h1.cell 3 2 rfl rfl
                 have d3 : w1.cell? ⟨mb, 3, none⟩ = some (.int .i64 (k : Int)) := h1.cell 3 3 rfl rfl
                 have e0 : w1.cell? ⟨b, 0, none⟩ = some (.pointer (some ⟨bs, 0, none⟩)) := h1.cell 0 0 rfl rfl
                 first
                   | (go_simp
                      first
                        | rfl
                        | exact ⟨rfl, h1⟩
                        | (go_at_call 26; with_reducible exact in_part (p : Int) (k : Int) hgs hd1 h1)
                        | (go_at_call 51; with_reducible exact len_part h1)
                        | (go_at_call 26; with_reducible exact in_part ((p : Int) + tt) (k : Int) hgs hd4 h1)
                     )
               intro K hK
               go_simp
               refine hK _ ?_
               clear hK K)
          refine calm_nil ?_
          intro w8 H8
          go_upto_region 10 with (fail)
          refine wp_calm (fun w' => St S w w' [RogB b bs iv, StoreAt bs r.s, Row 5 1 vI (r.s.last.length * 128) (bvs r.s.last.flatten), Blk mb (mvCells ⟨7, (p : Int), tt, (k : Int), bb⟩ x) 40]) (by kernel_rfl) (by kernel_rfl) (H8.drew) ?_
          iterate 17 first
            | (apply calm_pass
               · rfl
               intro K hK
               go_simp
               refine hK _ ?_
               clear hK K)
            | (apply calm_step
               · rfl
               · intro w1 h1
                 first
                   | (go_simp
                      first
                        | rfl
                        | exact ⟨rfl, h1⟩
                     )
               intro K hK
               go_simp
               refine hK _ ?_
               clear hK K)
          refine calm_nil ?_
          intro w9 H9
          go_wp2
          go_ret
          rw [hfin.out]
          exact ⟨rfl, H9.pick [0, 1]⟩
      · have hd3 : decide (tt ≤ (r.s.last.length : Int)) = false := by simpa using h3
        have hfin := Lib.hid (show r.do ⟨7, p, tt, k, bb⟩ = (false, r) by
          unfold RogM.do
          simp [h3])
        clear h1 h2 h3
        go_enter Tryd.func30, Tryd.ntmps30
        go_upto_region 9 with (go_at_call 14; go_must (refine ki.mono ?_; rintro e w1 ⟨vI, rfl, H0⟩; have H1 : St S w w1 [Row 5 1 vI (r.s.last.length * 128) (bvs r.s.last.flatten), Blk mb (mvCells ⟨7, (p : Int), tt, (k : Int), bb⟩ x) 40, RogB b bs iv, StoreAt bs r.s] := (G0 _ _ H0).pick [0, 2, 3, 1]; clear c0; have c0 : w1.cell? ⟨mb, 0, none⟩ = some (.int .i64 7) := H1.cell 1 0 rfl rfl))
        clear c0
        have H1' := H1.pick [2, 3, 0, 1]
        refine wp_calm (fun w' => St S w w' [RogB b bs iv, StoreAt bs r.s, Row 5 1 vI (r.s.last.length * 128) (bvs r.s.last.flatten), Blk mb (mvCells ⟨7, (p : Int), tt, (k : Int), bb⟩ x) 40]) (by kernel_rfl) (by kernel_rfl) (H1'.drew) ?_
        iterate 36 first
          | (apply calm_pass
             · rfl
             intro K hK
             go_simp
             refine hK _ ?_
             clear hK K)
          | (apply calm_step
             · rfl
             · intro w1 h1
               have d1 : w1.cell? ⟨mb, 1, none⟩ = some (.int .i64 (p : Int)) := h1.cell 3 1 rfl rfl
               have d2 : w1.cell? ⟨mb, 2, none⟩ = some (.int .i64 tt) := h1.cell 3 2 rfl rfl
               have d3 : w1.cell? ⟨mb, 3, none⟩ = some (.int .i64 (k : Int)) := h1.cell 3 3 rfl rfl
               have e0 : w1.cell? ⟨b, 0, none⟩ = some (.pointer (some ⟨bs, 0, none⟩)) := h1.cell 0 0 rfl rfl
               first
                 | (go_simp
                    first
                      | rfl
                      | exact ⟨rfl, h1⟩
                      | (go_at_call 26; with_reducible exact in_part (p : Int) (k : Int) hgs hd1 h1)
                      | (go_at_call 51; with_reducible exact len_part h1)
                   )
             intro K hK
             go_simp
             refine hK _ ?_
             clear hK K)
        refine calm_nil ?_
        intro w8 H8
        go_upto_region 10 with (fail)
        refine wp_calm (fun w' => St S w w' [RogB b bs iv, StoreAt bs r.s, Row 5 1 vI (r.s.last.length * 128) (bvs r.s.last.flatten), Blk mb (mvCells ⟨7, (p : Int), tt, (k : Int), bb⟩ x) 40]) (by kernel_rfl) (by kernel_rfl) (H8.drew) ?_
        iterate 17 first
          | (apply calm_pass
             · rfl
             intro K hK
             go_simp
             refine hK _ ?_
             clear hK K)
          | (apply calm_step
             · rfl
             · intro w1 h1
               first
                 | (go_simp
                    first
                      | rfl
                      | exact ⟨rfl, h1⟩
                   )
             intro K hK
             go_simp
             refine hK _ ?_
             clear hK K)
        refine calm_nil ?_
        intro w9 H9
        go_wp2
        go_ret
        rw [hfin.out]
        exact ⟨rfl, H9.pick [0, 1]⟩
    · have hd2 : decide (-(p : Int) ≤ tt) = false := by simpa using h2
      have hfin := Lib.hid (show r.do ⟨7, p, tt, k, bb⟩ = (false, r) by
        unfold RogM.do
        simp [h2])
      clear h1 h2
      go_enter Tryd.func30, Tryd.ntmps30
      go_upto_region 9 with (go_at_call 14; go_must (refine ki.mono ?_; rintro e w1 ⟨vI, rfl, H0⟩; have H1 : St S w w1 [Row 5 1 vI (r.s.last.length * 128) (bvs r.s.last.flatten), Blk mb (mvCells ⟨7, (p : Int), tt, (k : Int), bb⟩ x) 40, RogB b bs iv, StoreAt bs r.s] := (G0 _ _ H0).pick [0, 2, 3, 1]; clear c0; have c0 : w1.cell? ⟨mb, 0, none⟩ = some (.int .i64 7) := H1.cell 1 0 rfl rfl))
      clear c0
      have H1' := H1.pick [2, 3, 0, 1]
      refine wp_calm (fun w' => St S w w' [RogB b bs iv, StoreAt bs r.s, Row 5 1 vI (r.s.last.length * 128) (bvs r.s.last.flatten), Blk mb (mvCells ⟨7, (p : Int), tt, (k : Int), bb⟩ x) 40]) (by kernel_rfl) (by kernel_rfl) (H1'.drew) ?_
      iterate 36 first
        | (apply calm_pass
           · rfl
           intro K hK
           go_simp
           refine hK _ ?_
           clear hK K)
        | (apply calm_step
           · rfl
           · intro w1 h1
             have d1 : w1.cell? ⟨mb, 1, none⟩ = some (.int .i64 (p : Int)) := h1.cell 3 1 rfl rfl
             have d2 : w1.cell? ⟨mb, 2, none⟩ = some (.int .i64 tt) := h1.cell 3 2 rfl rfl
             have d3 : w1.cell? ⟨mb, 3, none⟩ = some (.int .i64 (k : Int)) := h1.cell 3 3 rfl rfl
             have e0 : w1.cell? ⟨b, 0, none⟩ = some (.pointer (some ⟨bs, 0, none⟩)) := h1.cell 0 0 rfl rfl
             first
               | (go_simp
                  first
                    | rfl
                    | exact ⟨rfl, h1⟩
                    | (go_at_call 26; with_reducible exact in_part (p : Int) (k : Int) hgs hd1 h1)
                 )
           intro K hK
           go_simp
           refine hK _ ?_
           clear hK K)
      refine calm_nil ?_
      intro w8 H8
      go_upto_region 10 with (fail)
      refine wp_calm (fun w' => St S w w' [RogB b bs iv, StoreAt bs r.s, Row 5 1 vI (r.s.last.length * 128) (bvs r.s.last.flatten), Blk mb (mvCells ⟨7, (p : Int), tt, (k : Int), bb⟩ x) 40]) (by kernel_rfl) (by kernel_rfl) (H8.drew) ?_
      iterate 17 first
        | (apply calm_pass
           · rfl
           intro K hK
           go_simp
           refine hK _ ?_
           clear hK K)
        | (apply calm_step
           · rfl
           · intro w1 h1
             first
               | (go_simp
                  first
                    | rfl
                    | exact ⟨rfl, h1⟩
                 )
           intro K hK
           go_simp
           refine hK _ ?_
           clear hK K)
      refine calm_nil ?_
      intro w9 H9
      go_wp2
      go_ret
      rw [hfin.out]
      exact ⟨rfl, H9.pick [0, 1]⟩
  · have hd1 : decide (r.s.among at' n) = false := by simpa using h1
    have hfin := Lib.hid (show r.do ⟨7, at', tt, n, bb⟩ = (false, r) by
      unfold RogM.do
      simp [h1])
    clear h1
    go_enter Tryd.func30, Tryd.ntmps30
    go_upto_region 9 with (go_at_call 14; go_must (refine ki.mono ?_; rintro e w1 ⟨vI, rfl, H0⟩; have H1 : St S w w1 [Row 5 1 vI (r.s.last.length * 128) (bvs r.s.last.flatten), Blk mb (mvCells ⟨7, at', tt, n, bb⟩ x) 40, RogB b bs iv, StoreAt bs r.s] := (G0 _ _ H0).pick [0, 2, 3, 1]; clear c0; have c0 : w1.cell? ⟨mb, 0, none⟩ = some (.int .i64 7) := H1.cell 1 0 rfl rfl))
    clear c0
    have H1' := H1.pick [2, 3, 0, 1]
    refine wp_calm (fun w' => St S w w' [RogB b bs iv, StoreAt bs r.s, Row 5 1 vI (r.s.last.length * 128) (bvs r.s.last.flatten), Blk mb (mvCells ⟨7, at', tt, n, bb⟩ x) 40]) (by kernel_rfl) (by kernel_rfl) (H1'.drew) ?_
    iterate 36 first
      | (apply calm_pass
         · rfl
         intro K hK
         go_simp
         refine hK _ ?_
         clear hK K)
      | (apply calm_step
         · rfl
         · intro w1 h1
           have d1 : w1.cell? ⟨mb, 1, none⟩ = some (.int .i64 at') := h1.cell 3 1 rfl rfl
           have d2 : w1.cell? ⟨mb, 2, none⟩ = some (.int .i64 tt) := h1.cell 3 2 rfl rfl
           have d3 : w1.cell? ⟨mb, 3, none⟩ = some (.int .i64 n) := h1.cell 3 3 rfl rfl
           have e0 : w1.cell? ⟨b, 0, none⟩ = some (.pointer (some ⟨bs, 0, none⟩)) := h1.cell 0 0 rfl rfl
           first
             | (go_simp
                first
                  | rfl
                  | exact ⟨rfl, h1⟩
                  | (go_at_call 26; with_reducible exact in_part at' n hgs hd1 h1)
               )
         intro K hK
         go_simp
         refine hK _ ?_
         clear hK K)
    refine calm_nil ?_
    intro w8 H8
    go_upto_region 10 with (fail)
    refine wp_calm (fun w' => St S w w' [RogB b bs iv, StoreAt bs r.s, Row 5 1 vI (r.s.last.length * 128) (bvs r.s.last.flatten), Blk mb (mvCells ⟨7, at', tt, n, bb⟩ x) 40]) (by kernel_rfl) (by kernel_rfl) (H8.drew) ?_
    iterate 17 first
      | (apply calm_pass
         · rfl
         intro K hK
         go_simp
         refine hK _ ?_
         clear hK K)
      | (apply calm_step
         · rfl
         · intro w1 h1
           first
             | (go_simp
                first
                  | rfl
                  | exact ⟨rfl, h1⟩
               )
         intro K hK
         go_simp
         refine hK _ ?_
         clear hK K)
    refine calm_nil ?_
    intro w9 H9
    go_wp2
    go_ret
    rw [hfin.out]
    exact ⟨rfl, H9.pick [0, 1]⟩
end Go.Proofs.YtaafedpjifaghaaDoor

/- The walk of the rogue: Do. Conditions: its blocks lie as its maker lays them; a move's bytes can be read. -/
set_option linter.unusedVariables false
set_option linter.unusedSimpArgs false
namespace Go.Proofs.YtaafedpjifaghaaDoor
open Go.RowKit

theorem do_imgs (r : RogM) (v : Mv) : (r.do v).2.imgs = r.imgs := by
  unfold RogM.do
  repeat' split
  all_goals rfl
theorem do_pair {r : RogM} {v : Mv} {s : StM} (h : r.do v = (true, r.put s)) : (r.do v).1 = true ∧ (r.do v).2.s = s := by rw [h]; exact ⟨rfl, rfl⟩
theorem make_bytes (n : Nat) (hn : n ≤ 1000000) : ∀ w, (Instr.makeSlice 38 (.int .i64 n) (.int .i64 n)).run Tryd.prog w = .ok (.slice (some ⟨w.heap.size, 0, none⟩) n n) (w.alloc (.cells (bvs (List.replicate n 0)).toArray 5)) := by
  obtain ⟨i5, hi5, hz5, hs5, hb5⟩ := info_parts Tryd.info5
  intro w
  have hm1 := run_make (P := Tryd.prog) w 38 5 i5 _ Tryd.underlying38 hi5 hz5 .i64 .i64 n n (by omega) (by omega) (by rw [hb5]; omega) (by omega)
  rw [hm1]
  have e : madeCells (Value.int .u8 0).cells (n * i5.size) = (bvs (List.replicate n 0)).toArray := by
    rw [made_all (.int .u8 0) _ _ (fun i hi => by
      have hi' : i = 0 := by simpa [Value.cells] using hi
      subst hi'; simp [Value.cells]) (by simp [Value.cells]), hs5, bvs_rep, Nat.mul_one]
  rw [Int.toNat_natCast, e]
theorem zeros_flat (n : Nat) : (List.replicate n zero128).flatten = List.replicate (128 * n) 0 := by
  unfold zero128
  induction n with
  | zero => rfl
  | succ n ih => rw [List.replicate_succ, List.flatten_cons, ih, List.replicate_append_replicate]; congr 1; omega

set_option maxHeartbeats 4000000 in
set_option maxRecDepth 100000 in
theorem rogue_do0 {b bs : Nat} {iv : Value} {r : RogM} (at' tt n : Int) (bb : List UInt8) {x : Value} {w : World} {S : Nat → Prop} (hv : BytesRO S w x bb) (hbb : bb.length ≤ 9223372036854775807) (hgs : r.s.Good) (H : Sep w [RogB b bs iv, StoreAt bs r.s] S) :
    Calls Tryd.prog 12 #[.pointer (some ⟨b, 0, none⟩), .agg (mvCells ⟨0, at', tt, n, bb⟩ x)] w fun e w' => e = .returned (.bool (r.do ⟨0, at', tt, n, bb⟩).1) ∧ St S w w' [RogB b bs iv, StoreAt bs (r.do ⟨0, at', tt, n, bb⟩).2.s] := by
  have hcnt := hgs.count
  obtain ⟨ad, cap, rfl, _⟩ := id hv
  obtain ⟨mb, hmb⟩ : ∃ g, w.heap.size = g := ⟨_, rfl⟩
  have HA : St S w _ [Blk mb (mvCells ⟨0, at', tt, n, bb⟩ (.slice ad bb.length cap)) 40, RogB b bs iv, StoreAt bs r.s] := (St.refl H).allocAt hmb (mvCells ⟨0, at', tt, n, bb⟩ (.slice ad bb.length cap)) 40
  have hvh := Lib.hid hv
  clear hv
  have c0 : (w.alloc (.cells (mvCells ⟨0, at', tt, n, bb⟩ (.slice ad bb.length cap)) 40)).cell? ⟨mb, 0, none⟩ = some (.int .i64 0) := HA.cell 0 0 rfl rfl
  by_cases h1 : r.s.among at' 1
  · obtain ⟨p, rfl, hp⟩ := among_one h1
    have hd1 : decide (r.s.among (p : Int) 1) = true := by simpa using h1
    by_cases h2 : bb.length ≤ 128
    · have hd2 : decide ((bb.length : Int) ≤ 128) = true := by simp; omega
      have hd3 : (bb.length : Int) ≤ 128 := by omega
      have hfin := Lib.hid (show r.do ⟨0, p, tt, n, bb⟩ = (true, r.put (r.s.lays p [pad128 bb])) by
        unfold RogM.do
        simp [h1, h2])
      have hpl := pad_len h2
      have hf1 : ∀ x ∈ [pad128 bb], x.length = 128 := fun x hx => by rw [List.mem_singleton.1 hx, hpl]
      have hfl : [pad128 bb].flatten = pad128 bb := by simp
      have hN : p + [pad128 bb].length ≤ r.s.last.length := by simp; omega
      clear h1 hpl
      go_enter Tryd.func12, Tryd.ntmps12
      go_upto_region 5 with (fail)
      clear c0
      refine wp_script [(0, false), (1, false), (2, false), (3, true), (4, false), (5, false), (6, false), (7, false), (8, false), (9, false), (10, false), (11, false), (12, false), (13, false), (14, false), (15, false), (16, true), (17, true), (18, false), (19, false)] (Fam fun w' => St S w w' [Blk mb (mvCells ⟨0, p, tt, n, bb⟩ (.slice ad bb.length cap)) 40, RogB b bs iv]) (fun w' => St S w w' [Blk mb (mvCells ⟨0, p, tt, n, bb⟩ (.slice ad bb.length cap)) 40, RogB b bs iv, StoreAt bs r.s]) (by kernel_rfl) (by rfl) (by kernel_rfl) (by kernel_rfl) HA.drew (Fam.st (fun _ h => h.pick [0, 1])) ?_
      iterate 3 first
        | (apply script_pass
           · rfl
           · rfl
           intro K hK
           go_simp
           refine hK _ ?_
           clear hK K)
        | (apply script_step
           · rfl
           · rfl
           · intro I hI w1 h1'
             have h1 := hI.2 _ h1'
             have d1 : w1.cell? ⟨mb, 1, none⟩ = some (.int .i64 p) := h1.cell 0 1 rfl rfl
             first
               | (go_simp
                  first
                    | rfl
                    | exact ⟨rfl, h1'⟩
                 )
           intro K hK
           go_simp
           refine hK _ ?_
           clear hK K)
      refine script_alone rfl rfl ?_
      intro V hV w1 h1
      go_simp
      refine (in_part (p : Int) 1 hgs hd1 (h1.pick [1, 2, 0])).mono ?_
      rintro e w2 ⟨rfl, H2⟩
      refine ⟨_, rfl, fun w' => St S w w' [Blk mb (mvCells ⟨0, p, tt, n, bb⟩ (.slice ad bb.length cap)) 40, RogB b bs iv, StoreAt bs r.s], hV _ _ _ (fun _ h => h) (Fam.st (fun _ h => h.pick [0, 1])) ?_, H2.pick [2, 0, 1]⟩
      intro K hK
      go_simp
      refine hK _ ?_
      clear hK K hV V
      clear H2 h1 w1 w2
      iterate 12 first
        | (apply script_pass
           · rfl
           · rfl
           intro K hK
           go_simp
           refine hK _ ?_
           clear hK K)
        | (apply script_step
           · rfl
           · rfl
           · intro I hI w1 h1'
             have h1 := hI.2 _ h1'
             have d1 : w1.cell? ⟨mb, 1, none⟩ = some (.int .i64 p) := h1.cell 0 1 rfl rfl
             have d4 : w1.cell? ⟨mb, 4, none⟩ = some (.slice ad bb.length cap) := h1.cell 0 4 rfl rfl
             first
               | (go_simp
                  first
                    | rfl
                    | exact ⟨rfl, h1'⟩
                 )
           intro K hK
           go_simp
           refine hK _ ?_
           clear hK K)
      refine script_alone rfl rfl ?_
      intro V hV w1 h1
      go_simp
      refine (rogue_padded (hvh.out.move h1.kept).free h2).mono ?_
      rintro e w2 ⟨v1, rfl, H2⟩
      have H3 : St S w w2 [Row 5 1 v1 128 (bvs [pad128 bb].flatten), Blk mb (mvCells ⟨0, p, tt, n, bb⟩ (.slice ad bb.length cap)) 40, RogB b bs iv, StoreAt bs r.s] := by rw [hfl]; exact h1.call0 H2
      refine ⟨_, rfl, fun w' => St S w w' [Row 5 1 v1 128 (bvs [pad128 bb].flatten), Blk mb (mvCells ⟨0, p, tt, n, bb⟩ (.slice ad bb.length cap)) 40, RogB b bs iv, StoreAt bs r.s], hV _ _ _ (fun _ h => h) (Fam.st (fun _ h => h.pick [1, 2])) ?_, H3⟩
      intro K hK
      go_simp
      refine hK _ ?_
      clear hK K hV V
      clear H3 H2 h1 w1 w2
      refine script_alone rfl rfl ?_
      intro V hV w1 h1
      go_simp
      refine (lay_row p hgs hf1 hN (h1.pick [2, 3, 0, 1])).mono ?_
      rintro e w2 ⟨rfl, H2⟩
      refine ⟨_, rfl, fun w' => St S w w' [Blk mb (mvCells ⟨0, p, tt, n, bb⟩ (.slice ad bb.length cap)) 40, RogB b bs iv, StoreAt bs (r.s.lays p [pad128 bb])], hV _ _ _ (fun _ h => h) (Fam.st (fun _ h => h.pick [0, 1])) ?_, H2.pick [3, 0, 1]⟩
      intro K hK
      go_simp
      refine hK _ ?_
      clear hK K hV V
      clear H2 h1 w1 w2
      iterate 2 first
        | (apply script_pass
           · rfl
           · rfl
           intro K hK
           go_simp
           refine hK _ ?_
           clear hK K)
        | (apply script_step
           · rfl
           · rfl
           · intro I hI w1 h1'
             have h1 := hI.2 _ h1'
             first
               | (go_simp
                  first
                    | rfl
                    | exact ⟨rfl, h1'⟩
                 )
           intro K hK
           go_simp
           refine hK _ ?_
           clear hK K)
      refine script_nil ?_
      intro w9 H9
      go_wp2
      go_ret
      rw [hfin.out]
      exact ⟨rfl, H9.pick [1, 2]⟩
    · have hd2 : decide ((bb.length : Int) ≤ 128) = false := by simp; omega
      have hfin := Lib.hid (show r.do ⟨0, p, tt, n, bb⟩ = (false, r) by
        unfold RogM.do
        simp [h2])
      clear h1 h2
      have H1' := HA.pick [1, 2, 0]
      go_enter Tryd.func12, Tryd.ntmps12
      go_upto_region 5 with (fail)
      clear c0
      refine wp_calm (fun w' => St S w w' [RogB b bs iv, StoreAt bs r.s, Blk mb (mvCells ⟨0, p, tt, n, bb⟩ (.slice ad bb.length cap)) 40]) (by kernel_rfl) (by kernel_rfl) (H1'.drew) ?_
      iterate 20 first
        | (apply calm_pass
           · rfl
           intro K hK
           go_simp
           refine hK _ ?_
           clear hK K)
        | (apply calm_step
           · rfl
           · intro w1 h1
             have d1 : w1.cell? ⟨mb, 1, none⟩ = some (.int .i64 p) := h1.cell 2 1 rfl rfl
             have d4 : w1.cell? ⟨mb, 4, none⟩ = some (.slice ad bb.length cap) := h1.cell 2 4 rfl rfl
             first
               | (go_simp
                  first
                    | rfl
                    | exact ⟨rfl, h1⟩
                    | (go_at_call 26; with_reducible exact in_part (p : Int) 1 hgs hd1 h1)
                 )
           intro K hK
           go_simp
           refine hK _ ?_
           clear hK K)
      refine calm_nil ?_
      intro w9 H9
      go_wp2
      go_ret
      rw [hfin.out]
      exact ⟨rfl, H9.pick [0, 1]⟩
  · have hd1 : decide (r.s.among at' 1) = false := by simpa using h1
    have hfin := Lib.hid (show r.do ⟨0, at', tt, n, bb⟩ = (false, r) by
      unfold RogM.do
      simp [h1])
    clear h1
    have H1' := HA.pick [1, 2, 0]
    go_enter Tryd.func12, Tryd.ntmps12
    go_upto_region 5 with (fail)
    clear c0
    refine wp_calm (fun w' => St S w w' [RogB b bs iv, StoreAt bs r.s, Blk mb (mvCells ⟨0, at', tt, n, bb⟩ (.slice ad bb.length cap)) 40]) (by kernel_rfl) (by kernel_rfl) (H1'.drew) ?_
    iterate 20 first
      | (apply calm_pass
         · rfl
         intro K hK
         go_simp
         refine hK _ ?_
         clear hK K)
      | (apply calm_step
         · rfl
         · intro w1 h1
           have d1 : w1.cell? ⟨mb, 1, none⟩ = some (.int .i64 at') := h1.cell 2 1 rfl rfl
           first
             | (go_simp
                first
                  | rfl
                  | exact ⟨rfl, h1⟩
                  | (go_at_call 26; with_reducible exact in_part at' 1 hgs hd1 h1)
               )
         intro K hK
         go_simp
         refine hK _ ?_
         clear hK K)
    refine calm_nil ?_
    intro w9 H9
    go_wp2
    go_ret
    rw [hfin.out]
    exact ⟨rfl, H9.pick [0, 1]⟩

set_option maxHeartbeats 4000000 in
set_option maxRecDepth 100000 in
theorem rogue_do2 {b bs : Nat} {iv : Value} {r : RogM} (at' tt n : Int) (bb : List UInt8) (x : Value) {w : World} {S : Nat → Prop} (hgs : r.s.Good) (H : Sep w [RogB b bs iv, StoreAt bs r.s] S) :
    Calls Tryd.prog 12 #[.pointer (some ⟨b, 0, none⟩), .agg (mvCells ⟨2, at', tt, n, bb⟩ x)] w fun e w' => e = .returned (.bool (r.do ⟨2, at', tt, n, bb⟩).1) ∧ St S w w' [RogB b bs iv, StoreAt bs (r.do ⟨2, at', tt, n, bb⟩).2.s] := by
  have hcnt := hgs.count
  obtain ⟨mb, hmb⟩ : ∃ g, w.heap.size = g := ⟨_, rfl⟩
  have HA : St S w _ [Blk mb (mvCells ⟨2, at', tt, n, bb⟩ x) 40, RogB b bs iv, StoreAt bs r.s] := (St.refl H).allocAt hmb (mvCells ⟨2, at', tt, n, bb⟩ x) 40
  have c0 : (w.alloc (.cells (mvCells ⟨2, at', tt, n, bb⟩ x) 40)).cell? ⟨mb, 0, none⟩ = some (.int .i64 2) := HA.cell 0 0 rfl rfl
  by_cases h1 : r.s.among at' n
  · obtain ⟨p, rfl⟩ := Int.eq_ofNat_of_zero_le h1.1
    have hd1 : decide (r.s.among (p : Int) n) = true := by simpa using h1
    obtain ⟨k, rfl⟩ : ∃ k : Nat, n = k := ⟨n.toNat, by have := h1.2.1; omega⟩
    have hk1 : 1 ≤ k := by have := h1.2.1; omega
    have hpk : p + k ≤ r.s.last.length := by have := h1.2.2; omega
    have hfin := Lib.hid (show r.do ⟨2, p, tt, k, bb⟩ = (true, r.put (r.s.lays p (List.replicate k zero128))) by
      unfold RogM.do
      simp [h1])
    have hf1 : ∀ x ∈ List.replicate k zero128, x.length = 128 := fun x hx => by rw [(List.mem_replicate.1 hx).2]; rfl
    have hN : p + (List.replicate k zero128).length ≤ r.s.last.length := by rw [List.length_replicate]; exact hpk
    have w1 : IntKind.i64.wrap (128 * (k : Int)) = 128 * (k : Int) := by rw [IntKind.wrap_i64]; omega
    have hm : ∀ w, (Instr.makeSlice 38 (.int .i64 (128 * (k : Int))) (.int .i64 (128 * (k : Int)))).run Tryd.prog w = .ok (.slice (some ⟨w.heap.size, 0, none⟩) (128 * k) (128 * k)) (w.alloc (.cells (bvs (List.replicate (128 * k) 0)).toArray 5)) := fun w => by
      have := make_bytes (128 * k) (by omega) w
      rwa [show ((128 * k : Nat) : Int) = 128 * (k : Int) by omega] at this
    obtain ⟨A0, hA0⟩ : ∃ A0, (bvs (List.replicate (128 * k) 0)).toArray = A0 := ⟨_, rfl⟩
    rw [hA0] at hm
    have hA := Lib.hid hA0
    clear h1 hA0
    go_enter Tryd.func12, Tryd.ntmps12
    go_upto_region 7 with (fail)
    clear c0
    refine wp_script [(0, false), (1, false), (2, false), (3, false), (4, false), (5, true), (6, false), (7, false), (8, false), (9, false), (10, false), (11, false), (12, false), (13, true), (14, true), (15, false), (16, false)] (Fam fun w' => St S w w' [Blk mb (mvCells ⟨2, p, tt, k, bb⟩ x) 40, RogB b bs iv]) (fun w' => St S w w' [Blk mb (mvCells ⟨2, p, tt, k, bb⟩ x) 40, RogB b bs iv, StoreAt bs r.s]) (by kernel_rfl) (by rfl) (by kernel_rfl) (by kernel_rfl) HA.drew (Fam.st (fun _ h => h.pick [0, 1])) ?_
    iterate 5 first
      | (apply script_pass
         · rfl
         · rfl
         intro K hK
         go_simp
         refine hK _ ?_
         clear hK K)
      | (apply script_step
         · rfl
         · rfl
         · intro I hI w1 h1'
           have h1 := hI.2 _ h1'
           have d1 : w1.cell? ⟨mb, 1, none⟩ = some (.int .i64 p) := h1.cell 0 1 rfl rfl
           have d3 : w1.cell? ⟨mb, 3, none⟩ = some (.int .i64 k) := h1.cell 0 3 rfl rfl
           first
             | (go_simp
                first
                  | rfl
                  | exact ⟨rfl, h1'⟩
               )
         intro K hK
         go_simp
         refine hK _ ?_
         clear hK K)
    refine script_alone rfl rfl ?_
    intro V hV w1 h1
    go_simp
    refine (in_part (p : Int) (k : Int) hgs hd1 (h1.pick [1, 2, 0])).mono ?_
    rintro e w2 ⟨rfl, H2⟩
    refine ⟨_, rfl, fun w' => St S w w' [Blk mb (mvCells ⟨2, p, tt, k, bb⟩ x) 40, RogB b bs iv, StoreAt bs r.s], hV _ _ _ (fun _ h => h) (Fam.st (fun _ h => h.pick [0, 1])) ?_, H2.pick [2, 0, 1]⟩
    intro K hK
    go_simp
    refine hK _ ?_
    clear hK K hV V
    clear H2 h1 w1 w2
    iterate 7 first
      | (apply script_pass
         · rfl
         · rfl
         intro K hK
         go_simp
         refine hK _ ?_
         clear hK K)
      | (apply script_step
         · rfl
         · rfl
         · intro I hI w1 h1'
           have h1 := hI.2 _ h1'
           have d1 : w1.cell? ⟨mb, 1, none⟩ = some (.int .i64 p) := h1.cell 0 1 rfl rfl
           have d3 : w1.cell? ⟨mb, 3, none⟩ = some (.int .i64 k) := h1.cell 0 3 rfl rfl
           first
             | (go_simp
                first
                  | rfl
                  | exact ⟨rfl, h1'⟩
               )
         intro K hK
         go_simp
         refine hK _ ?_
         clear hK K)
    refine script_alone rfl rfl ?_
    intro V hV w1 h1
    go_simp
    obtain ⟨gn, hgn⟩ : ∃ g, w1.heap.size = g := ⟨_, rfl⟩
    have H3 : St S w (w1.alloc (.cells A0 5)) [Blk gn A0 5, Blk mb (mvCells ⟨2, p, tt, k, bb⟩ x) 40, RogB b bs iv, StoreAt bs r.s] := h1.allocAt hgn _ 5
    have H4 : St S w (w1.alloc (.cells A0 5)) [Row 5 1 (.slice (some ⟨gn, 0, none⟩) (128 * k) (128 * k)) (128 * k) (bvs (List.replicate k zero128).flatten), Blk mb (mvCells ⟨2, p, tt, k, bb⟩ x) 40, RogB b bs iv, StoreAt bs r.s] := by have := St.blkRow (n := 128 * k) (size := 1) H3 (by rw [← hA.out]; simp [bvs]) (by unfold maxLen; omega); rw [← hA.out] at this ⊢; rw [zeros_flat]; exact this
    simp only [hgn]
    refine ⟨fun w' => St S w w' [Row 5 1 (.slice (some ⟨gn, 0, none⟩) (128 * k) (128 * k)) (128 * k) (bvs (List.replicate k zero128).flatten), Blk mb (mvCells ⟨2, p, tt, k, bb⟩ x) 40, RogB b bs iv, StoreAt bs r.s], hV _ _ _ (fun _ h => h) (Fam.st (fun _ h => h.pick [1, 2])) ?_, H4⟩
    intro K hK
    go_simp
    refine hK _ ?_
    clear hK K hV V
    clear H4 H3 h1 hgn w1
    refine script_alone rfl rfl ?_
    intro V hV w1 h1
    go_simp
    refine (lay_row p hgs hf1 hN (h1.pick [2, 3, 0, 1])).mono ?_
    rintro e w2 ⟨rfl, H2⟩
    refine ⟨_, rfl, fun w' => St S w w' [Blk mb (mvCells ⟨2, p, tt, k, bb⟩ x) 40, RogB b bs iv, StoreAt bs (r.s.lays p (List.replicate k zero128))], hV _ _ _ (fun _ h => h) (Fam.st (fun _ h => h.pick [0, 1])) ?_, H2.pick [3, 0, 1]⟩
    intro K hK
    go_simp
    refine hK _ ?_
    clear hK K hV V
    clear H2 h1 w1 w2
    iterate 2 first
      | (apply script_pass
         · rfl
         · rfl
         intro K hK
         go_simp
         refine hK _ ?_
         clear hK K)
      | (apply script_step
         · rfl
         · rfl
         · intro I hI w1 h1'
           have h1 := hI.2 _ h1'
           first
             | (go_simp
                first
                  | rfl
                  | exact ⟨rfl, h1'⟩
               )
         intro K hK
         go_simp
         refine hK _ ?_
         clear hK K)
    refine script_nil ?_
    intro w9 H9
    go_wp2
    go_ret
    rw [hfin.out]
    exact ⟨rfl, H9.pick [1, 2]⟩
  · have hd1 : decide (r.s.among at' n) = false := by simpa using h1
    have hfin := Lib.hid (show r.do ⟨2, at', tt, n, bb⟩ = (false, r) by
      unfold RogM.do
      simp [h1])
    clear h1
    have H1' := HA.pick [1, 2, 0]
    go_enter Tryd.func12, Tryd.ntmps12
    go_upto_region 7 with (fail)
    clear c0
    refine wp_calm (fun w' => St S w w' [RogB b bs iv, StoreAt bs r.s, Blk mb (mvCells ⟨2, at', tt, n, bb⟩ x) 40]) (by kernel_rfl) (by kernel_rfl) (H1'.drew) ?_
    iterate 17 first
      | (apply calm_pass
         · rfl
         intro K hK
         go_simp
         refine hK _ ?_
         clear hK K)
      | (apply calm_step
         · rfl
         · intro w1 h1
           have d1 : w1.cell? ⟨mb, 1, none⟩ = some (.int .i64 at') := h1.cell 2 1 rfl rfl
           have d3 : w1.cell? ⟨mb, 3, none⟩ = some (.int .i64 n) := h1.cell 2 3 rfl rfl
           first
             | (go_simp
                first
                  | rfl
                  | exact ⟨rfl, h1⟩
                  | (go_at_call 26; with_reducible exact in_part at' n hgs hd1 h1)
               )
         intro K hK
         go_simp
         refine hK _ ?_
         clear hK K)
    refine calm_nil ?_
    intro w9 H9
    go_wp2
    go_ret
    rw [hfin.out]
    exact ⟨rfl, H9.pick [0, 1]⟩

end Go.Proofs.YtaafedpjifaghaaDoor

/- The walk of the rogue: Do in general, Run. Conditions: its blocks lie as its maker lays them; moves can be read. -/
set_option linter.unusedVariables false
set_option linter.unusedSimpArgs false
namespace Go.Proofs.YtaafedpjifaghaaDoor
open Go.RowKit

set_option maxHeartbeats 1000000 in
set_option maxRecDepth 100000 in
theorem rogue_doM {b bs : Nat} {iv : Value} {r : RogM} (k at' tt n : Int) (bb : List UInt8) (x : Value) {w : World} {S : Nat → Prop} (hk : k = 1 ∨ k = 5 ∨ k = 6 ∨ k = 7) (hgs : r.s.Good) (H : Sep w [RogB b bs iv, StoreAt bs r.s] S) :
    Calls Tryd.prog 12 #[.pointer (some ⟨b, 0, none⟩), .agg (mvCells ⟨k, at', tt, n, bb⟩ x)] w fun e w' => e = .returned (.bool (r.do ⟨k, at', tt, n, bb⟩).1) ∧ St S w w' [RogB b bs iv, StoreAt bs (r.do ⟨k, at', tt, n, bb⟩).2.s] := by
  obtain ⟨mb, hmb⟩ : ∃ g, w.heap.size = g := ⟨_, rfl⟩
  have HA : St S w (w.alloc (.cells (mvCells ⟨k, at', tt, n, bb⟩ x) 40)) [Blk mb (mvCells ⟨k, at', tt, n, bb⟩ x) 40, RogB b bs iv, StoreAt bs r.s] := (St.refl H).allocAt hmb (mvCells ⟨k, at', tt, n, bb⟩ x) 40
  have d0 : (w.alloc (.cells (mvCells ⟨k, at', tt, n, bb⟩ x) 40)).cell? ⟨mb, 0, none⟩ = some (.int .i64 k) := HA.cell 0 0 rfl rfl
  have d1 : (w.alloc (.cells (mvCells ⟨k, at', tt, n, bb⟩ x) 40)).cell? ⟨mb, 1, none⟩ = some (.int .i64 at') := HA.cell 0 1 rfl rfl
  have d2 : (w.alloc (.cells (mvCells ⟨k, at', tt, n, bb⟩ x) 40)).cell? ⟨mb, 2, none⟩ = some (.int .i64 tt) := HA.cell 0 2 rfl rfl
  have d3 : (w.alloc (.cells (mvCells ⟨k, at', tt, n, bb⟩ x) 40)).cell? ⟨mb, 3, none⟩ = some (.int .i64 n) := HA.cell 0 3 rfl rfl
  have d4 : (w.alloc (.cells (mvCells ⟨k, at', tt, n, bb⟩ x) 40)).cell? ⟨mb, 4, none⟩ = some x := HA.cell 0 4 rfl rfl
  obtain ⟨S1, K1, G1⟩ := St.call (l1 := [RogB b bs iv, StoreAt bs r.s]) (HA.pick [1, 2, 0])
  have kr : Calls Tryd.prog 30 #[.pointer (some ⟨b, 0, none⟩), .agg (mvCells ⟨k, at', tt, n, bb⟩ x)] (w.alloc (.cells (mvCells ⟨k, at', tt, n, bb⟩ x) 40)) fun e w' => e = .returned (.bool (r.do ⟨k, at', tt, n, bb⟩).1) ∧ St S1 (w.alloc (.cells (mvCells ⟨k, at', tt, n, bb⟩ x) 40)) w' [RogB b bs iv, StoreAt bs (r.do ⟨k, at', tt, n, bb⟩).2.s] := by
    rcases hk with rfl | rfl | rfl | rfl
    · exact rogue_moved1 at' tt n bb x hgs K1
    · exact rogue_moved5 at' tt n bb x hgs K1
    · exact rogue_moved6 at' tt n bb x hgs K1
    · exact rogue_moved7 at' tt n bb x hgs K1
  obtain ⟨R, hR⟩ : ∃ R, r.do ⟨k, at', tt, n, bb⟩ = R := ⟨_, rfl⟩
  rw [hR] at kr ⊢
  clear hR K1 HA
  rcases hk with rfl | rfl | rfl | rfl
  all_goals
    go_enter Tryd.func12, Tryd.ntmps12
    go_wp2_with (go_at_call 30; go_must (refine kr.mono ?_; rintro e w1 ⟨rfl, H1⟩))
    go_ret
    exact ⟨rfl, (G1 _ _ H1).take (l1 := [_, _])⟩
set_option maxHeartbeats 1000000 in
set_option maxRecDepth 100000 in
theorem rogue_doO {b bs : Nat} {iv : Value} {r : RogM} {vs : List Value} (k at' tt n : Int) (bb : List UInt8) (x : Value) {w : World} {S : Nat → Prop} (hk : k = 3 ∨ k = 4) (hg : r.Good) (hvs : vs.length = r.imgs.length) (H : Sep w [RogB b bs iv, StoreAt bs r.s, ImgR iv r.imgs vs, Pile ImgA vs r.imgs] S) :
    Calls Tryd.prog 12 #[.pointer (some ⟨b, 0, none⟩), .agg (mvCells ⟨k, at', tt, n, bb⟩ x)] w fun e w' => e = .returned (.bool (r.do ⟨k, at', tt, n, bb⟩).1) ∧ St S w w' [RogB b bs iv, StoreAt bs (r.do ⟨k, at', tt, n, bb⟩).2.s, ImgR iv r.imgs vs, Pile ImgA vs r.imgs] := by
  obtain ⟨mb, hmb⟩ : ∃ g, w.heap.size = g := ⟨_, rfl⟩
  have HA : St S w (w.alloc (.cells (mvCells ⟨k, at', tt, n, bb⟩ x) 40)) [Blk mb (mvCells ⟨k, at', tt, n, bb⟩ x) 40, RogB b bs iv, StoreAt bs r.s, ImgR iv r.imgs vs, Pile ImgA vs r.imgs] := (St.refl H).allocAt hmb (mvCells ⟨k, at', tt, n, bb⟩ x) 40
  have d0 : (w.alloc (.cells (mvCells ⟨k, at', tt, n, bb⟩ x) 40)).cell? ⟨mb, 0, none⟩ = some (.int .i64 k) := HA.cell 0 0 rfl rfl
  have d1 : (w.alloc (.cells (mvCells ⟨k, at', tt, n, bb⟩ x) 40)).cell? ⟨mb, 1, none⟩ = some (.int .i64 at') := HA.cell 0 1 rfl rfl
  have d2 : (w.alloc (.cells (mvCells ⟨k, at', tt, n, bb⟩ x) 40)).cell? ⟨mb, 2, none⟩ = some (.int .i64 tt) := HA.cell 0 2 rfl rfl
  have d3 : (w.alloc (.cells (mvCells ⟨k, at', tt, n, bb⟩ x) 40)).cell? ⟨mb, 3, none⟩ = some (.int .i64 n) := HA.cell 0 3 rfl rfl
  have d4 : (w.alloc (.cells (mvCells ⟨k, at', tt, n, bb⟩ x) 40)).cell? ⟨mb, 4, none⟩ = some x := HA.cell 0 4 rfl rfl
  obtain ⟨S1, K1, G1⟩ := St.call (l1 := [RogB b bs iv, StoreAt bs r.s, ImgR iv r.imgs vs, Pile ImgA vs r.imgs]) (HA.pick [1, 2, 3, 4, 0])
  have kr := rogue_old ⟨k, at', tt, n, bb⟩ x hg hvs hk K1
  obtain ⟨R, hR⟩ : ∃ R, r.do ⟨k, at', tt, n, bb⟩ = R := ⟨_, rfl⟩
  rw [hR] at kr ⊢
  clear hR K1 HA
  rcases hk with rfl | rfl
  all_goals
    go_enter Tryd.func12, Tryd.ntmps12
    go_wp2_with (go_at_call 29; go_must (refine kr.mono ?_; rintro e w1 ⟨rfl, H1⟩))
    go_ret
    exact ⟨rfl, (G1 _ _ H1).take (l1 := [_, _, _, _])⟩
set_option maxHeartbeats 1000000 in
set_option maxRecDepth 100000 in
theorem rogue_doN {b : Nat} (k at' tt n : Int) (bb : List UInt8) (x : Value) {w : World} (h0 : ¬ k = 0) (h1 : ¬ k = 1) (h2 : ¬ k = 2) (h3 : ¬ k = 3) (h4 : ¬ k = 4) (h5 : ¬ k = 5) (h6 : ¬ k = 6) (h7 : ¬ k = 7) :
    Calls Tryd.prog 12 #[.pointer (some ⟨b, 0, none⟩), .agg (mvCells ⟨k, at', tt, n, bb⟩ x)] w fun e w' => e = .returned (.bool false) ∧ Below w.heap.size w w' := by
  have HA : St (fun _ => False) w (w.alloc (.cells (mvCells ⟨k, at', tt, n, bb⟩ x) 40)) [Blk w.heap.size (mvCells ⟨k, at', tt, n, bb⟩ x) 40] := (St.nil _ w).allocAt rfl (mvCells ⟨k, at', tt, n, bb⟩ x) 40
  have d0 : (w.alloc (.cells (mvCells ⟨k, at', tt, n, bb⟩ x) 40)).cell? ⟨w.heap.size, 0, none⟩ = some (.int .i64 k) := HA.cell 0 0 rfl rfl
  have e0 : (k == 0) = false := by simpa using h0
  have e1 : (k == 1) = false := by simpa using h1
  have e2 : (k == 2) = false := by simpa using h2
  have e3 : (k == 3) = false := by simpa using h3
  have e4 : (k == 4) = false := by simpa using h4
  have e5 : (k == 5) = false := by simpa using h5
  have e6 : (k == 6) = false := by simpa using h6
  have e7 : (k == 7) = false := by simpa using h7
  clear h0 h1 h2 h3 h4 h5 h6 h7
  go_enter Tryd.func12, Tryd.ntmps12
  go_wp2
  go_ret
  exact ⟨rfl, HA.below (Nat.le_refl _) (fun _ h => h.elim)⟩
theorem do_none {r : RogM} {v : Mv} (h0 : ¬ v.kind = 0) (h1 : ¬ v.kind = 1) (h2 : ¬ v.kind = 2) (h3 : ¬ v.kind = 3) (h4 : ¬ v.kind = 4) (h5 : ¬ v.kind = 5) (h6 : ¬ v.kind = 6) (h7 : ¬ v.kind = 7) : r.do v = (false, r) := by
  unfold RogM.do
  simp [h0, h1, h2, h3, h4, h5, h6, h7]
/-- ANY MOVE. -/
theorem rogue_do {b bs : Nat} {iv : Value} {r : RogM} (v : Mv) {x : Value} {w : World} {S : Nat → Prop} (hv : BytesRO S w x v.b) (hbb : v.b.length ≤ 9223372036854775807) (hg : r.Good) (H : Sep w [RogB b bs iv, StoreAt bs r.s, Imgs iv r.imgs] S) :
    Calls Tryd.prog 12 #[.pointer (some ⟨b, 0, none⟩), .agg (mvCells v x)] w fun e w' => e = .returned (.bool (r.do v).1) ∧ St S w w' [RogB b bs iv, StoreAt bs (r.do v).2.s, Imgs iv (r.do v).2.imgs] := by
  rw [do_imgs]
  obtain ⟨k, at', tt, n, bb⟩ := v
  obtain ⟨S1, K1, hS1, _, G1⟩ := St.call2 (l1 := [RogB b bs iv, StoreAt bs r.s]) (l2 := [Imgs iv r.imgs]) (St.refl H)
  by_cases h0 : k = 0
  · subst h0
    exact (rogue_do0 at' tt n bb (hv.lent (Kept.refl _ _) hS1) hbb hg.s K1).mono fun e w' ⟨he, h⟩ => ⟨he, G1 _ _ h⟩
  by_cases h2 : k = 2
  · subst h2
    exact (rogue_do2 at' tt n bb x hg.s K1).mono fun e w' ⟨he, h⟩ => ⟨he, G1 _ _ h⟩
  by_cases h1 : k = 1 ∨ k = 5 ∨ k = 6 ∨ k = 7
  · exact (rogue_doM k at' tt n bb x h1 hg.s K1).mono fun e w' ⟨he, h⟩ => ⟨he, G1 _ _ h⟩
  by_cases h3 : k = 3 ∨ k = 4
  · obtain ⟨vs, hvs, H0⟩ := Stack.open ((St.refl H).pick [2, 0, 1])
    have H0 : St S w w [ImgR iv r.imgs vs, Pile ImgA vs r.imgs, RogB b bs iv, StoreAt bs r.s] := H0
    obtain ⟨S2, K2, G2⟩ := St.call (l1 := [RogB b bs iv, StoreAt bs r.s, ImgR iv r.imgs vs, Pile ImgA vs r.imgs]) (l2 := []) (H0.pick [2, 3, 0, 1])
    refine (rogue_doO k at' tt n bb x h3 hg hvs K2).mono fun e w' ⟨he, h⟩ => ⟨he, ?_⟩
    have h5 : St S w w' [RogB b bs iv, StoreAt bs (r.do ⟨k, at', tt, n, bb⟩).2.s, ImgR iv r.imgs vs, Pile ImgA vs r.imgs] := G2 _ _ h
    exact St.pick (l := [Imgs iv r.imgs, RogB b bs iv, StoreAt bs (r.do ⟨k, at', tt, n, bb⟩).2.s]) (Stack.mk (vs := vs) (h5.pick [2, 3, 0, 1])) [1, 2, 0]
  · have hn := do_none (r := r) (v := ⟨k, at', tt, n, bb⟩) h0 (fun h => h1 (.inl h)) h2 (fun h => h3 (.inl h)) (fun h => h3 (.inr h)) (fun h => h1 (.inr (.inl h))) (fun h => h1 (.inr (.inr (.inl h)))) (fun h => h1 (.inr (.inr (.inr h))))
    rw [hn]
    exact (St.callPast (rogue_doN k at' tt n bb x h0 (fun h => h1 (.inl h)) h2 (fun h => h3 (.inl h)) (fun h => h3 (.inr h)) (fun h => h1 (.inr (.inl h))) (fun h => h1 (.inr (.inr (.inl h)))) (fun h => h1 (.inr (.inr (.inr h))))) (St.refl H)).mono fun e w' h => h

end Go.Proofs.YtaafedpjifaghaaDoor

/- The walk of the rogue: Run, and a rogue that is none. Conditions: its blocks lie as its maker lays them; moves can be read. -/
set_option linter.unusedVariables false
set_option linter.unusedSimpArgs false
namespace Go.Proofs.YtaafedpjifaghaaDoor
open Go.RowKit

/-- Moves that can be read, and stay so while outside S nothing turns. -/
def MvsRO (S : Nat → Prop) (w : World) (v : Value) (l : List (Mv × Value)) : Prop :=
  ∃ ad cap, v = .slice ad l.length cap ∧ l.length ≤ 9223372036854775807 ∧ (∀ y ∈ l, BytesRO S w y.2 y.1.b ∧ y.1.b.length ≤ 9223372036854775807) ∧
    (l ≠ [] → ∃ b o, ad = some ⟨b, o, none⟩ ∧ b < w.heap.size ∧ ¬ S b ∧ ∀ i y, l[i]? = some y → w.rangeAt b (o + i * 5) (mvCells y.1 y.2).toList)
def runM (l : List Mv) (r : RogM) : Nat × RogM := l.foldl (fun p v => (if (p.2.do v).1 = true then p.1 + 1 else p.1, (p.2.do v).2)) (0, r)
theorem runM_snoc (l : List Mv) (v : Mv) (r : RogM) : runM (l ++ [v]) r = (if ((runM l r).2.do v).1 = true then (runM l r).1 + 1 else (runM l r).1, ((runM l r).2.do v).2) := by rw [runM, List.foldl_append]; rfl
theorem runM_take {l : List Mv} {k : Nat} {v : Mv} (h : l[k]? = some v) (r : RogM) : runM (l.take (k + 1)) r = (if ((runM (l.take k) r).2.do v).1 = true then (runM (l.take k) r).1 + 1 else (runM (l.take k) r).1, ((runM (l.take k) r).2.do v).2) := by
  rw [take_snoc' h, runM_snoc]
theorem runM_good {r : RogM} (hg : r.Good) (l : List Mv) : (runM l r).2.Good ∧ (runM l r).1 ≤ l.length := by
  have key : ∀ k, k ≤ l.length → (runM (l.take k) r).2.Good ∧ (runM (l.take k) r).1 ≤ k := by
    intro k
    induction k with
    | zero => intro _; exact ⟨hg, Nat.le_refl _⟩
    | succ k ih =>
      intro hk
      obtain ⟨h1, h2⟩ := ih (by omega)
      rw [runM_take (List.getElem?_eq_getElem (by omega : k < l.length))]
      refine ⟨h1.do _, ?_⟩
      simp only
      by_cases h : ((runM (l.take k) r).2.do l[k]).1 = true
      · rw [if_pos h]; omega
      · rw [if_neg h]; omega
  have := key l.length (Nat.le_refl _)
  rwa [List.take_length] at this

set_option maxHeartbeats 2000000 in
set_option maxRecDepth 100000 in
theorem rogue_run {b bs : Nat} {iv : Value} {r : RogM} {lv : Value} {l : List (Mv × Value)} {w : World} {S : Nat → Prop} (hl : MvsRO S w lv l) (hg : r.Good) (H : Sep w [RogB b bs iv, StoreAt bs r.s, Imgs iv r.imgs] S) :
    Calls Tryd.prog 17 #[.pointer (some ⟨b, 0, none⟩), lv] w fun e w' => e = .returned (.int .i64 (runM (l.map (·.1)) r).1) ∧ St S w w' [RogB b bs iv, StoreAt bs (runM (l.map (·.1)) r).2.s, Imgs iv (runM (l.map (·.1)) r).2.imgs] := by
  obtain ⟨ad, cap, rfl, hlen, hbs, hcells⟩ := hl
  have hrg := fun k => runM_good hg ((l.map (·.1)).take k)
  go_enter Tryd.func17, Tryd.ntmps17
  go_upto_block 1 with (fail)
  go_loopw [5, 10] (fun c j wr => ∃ k : Nat, k ≤ l.length ∧ j = .int .i64 k ∧ c = .int .i64 (runM ((l.map (·.1)).take k) r).1 ∧ St S w wr [RogB b bs iv, StoreAt bs (runM ((l.map (·.1)).take k) r).2.s, Imgs iv (runM ((l.map (·.1)).take k) r).2.imgs]) (fun _ j _ => l.length - (intOf j).toNat)
  case atStart => exact ⟨0, by omega, rfl, rfl, St.refl H⟩
  case round =>
    obtain ⟨k, hk, rfl, rfl, HL⟩ := hrel
    obtain ⟨hrk, hck⟩ := hrg k
    by_cases hlt : k < l.length
    · obtain ⟨⟨v, x⟩, hx⟩ : ∃ y, l[k]? = some y := ⟨_, List.getElem?_eq_getElem hlt⟩
      obtain ⟨hvb, hvl⟩ := hbs _ (List.mem_of_getElem? hx)
      obtain ⟨xa, xc, e, _⟩ := id hvb
      simp only at e
      subst e
      obtain ⟨bo, o, rfl, hbo, hbS, hc⟩ := hcells (by rintro rfl; simp at hlt)
      have hst := runM_take (show (l.map (·.1))[k]? = some v by simp [hx]) r
      have hc5 : ∀ j u, (mvCells v (.slice xa v.b.length xc)).toList[j]? = some u → wr.cell? ⟨bo, o + k * 5 + j, none⟩ = some u := fun j u hj => (World.cell?_of_block (w := w) (HL.kept.block bo hbo hbS)).trans (hc k _ hx j u hj)
      have c0 := hc5 0 _ rfl
      have c1 := hc5 1 _ rfl
      have c2 := hc5 2 _ rfl
      have c3 := hc5 3 _ rfl
      have c4 := hc5 4 _ rfl
      rw [Nat.add_zero] at c0
      rw [List.length_take] at hck
      obtain ⟨rk, hrk2⟩ : ∃ rk, runM ((l.map (·.1)).take k) r = rk := ⟨_, rfl⟩
      rw [hrk2] at hst hrk HL hck ⊢
      obtain ⟨n, r'⟩ := rk
      simp only at hst hrk HL hck ⊢
      have hsth := Lib.hid hst
      clear hst hrk2 hc hc5 hx hcells hbs hrg
      have HA : St S w _ [Blk wr.heap.size (mvCells v (.slice xa v.b.length xc)) 40, RogB b bs iv, StoreAt bs r'.s, Imgs iv r'.imgs] := HL.allocAt rfl (mvCells v (.slice xa v.b.length xc)) 40
      go_upto_region 5 with (fail)
      obtain ⟨wa, hwa⟩ : ∃ wa, wr.alloc (.cells (mvCells v (.slice xa v.b.length xc)) 40) = wa := ⟨_, rfl⟩
      obtain ⟨ob, hob⟩ : ∃ ob, wr.heap.size = ob := ⟨_, rfl⟩
      have hwa2 : wr.alloc (.cells #[.int .i64 v.kind, .int .i64 v.at', .int .i64 v.to, .int .i64 v.n, .slice xa v.b.length xc] 40) = wa := hwa
      rw [hwa, hob] at HA
      try rw [hwa2]
      try simp only [hob]
      clear hwa hwa2 hob c0 c1 c2 c3 c4 HL
      have d0 : wa.cell? ⟨ob, 0, none⟩ = some (.int .i64 v.kind) := HA.cell 0 0 rfl rfl
      have d1 : wa.cell? ⟨ob, 1, none⟩ = some (.int .i64 v.at') := HA.cell 0 1 rfl rfl
      have d2 : wa.cell? ⟨ob, 2, none⟩ = some (.int .i64 v.to) := HA.cell 0 2 rfl rfl
      have d3 : wa.cell? ⟨ob, 3, none⟩ = some (.int .i64 v.n) := HA.cell 0 3 rfl rfl
      have d4 : wa.cell? ⟨ob, 4, none⟩ = some (.slice xa v.b.length xc) := HA.cell 0 4 rfl rfl
      obtain ⟨S1, K1, hS1, _, G1⟩ := St.call2 (l1 := [RogB b bs iv, StoreAt bs r'.s, Imgs iv r'.imgs]) (HA.pick [1, 2, 3, 0])
      have kd := rogue_do v (hvb.lent HA.kept hS1) hvl hrk K1
      have hkl : n ≤ k := by omega
      obtain ⟨R, hR⟩ : ∃ R, r'.do v = R := ⟨_, rfl⟩
      have hR2 := Lib.hid hR
      rw [hR] at kd
      clear hR hck
      obtain ⟨ok, r2⟩ := R
      have hs3 := Lib.hid (show runM ((l.map (·.1)).take (k + 1)) r = (if ok = true then n + 1 else n, r2) by rw [hsth.out, hR2.out])
      clear hsth hvb hvl hrk HA
      cases ok
      · go_wp2_with (go_at_call 12; go_must (refine kd.mono ?_; rintro e w2 ⟨rfl, H2⟩))
        go_roundw
        case rel => exact ⟨k + 1, by omega, by go_num, by rw [hs3.out]; rfl, by rw [hs3.out]; exact (G1 _ _ H2).take (l1 := [_, _, _])⟩
        case measure => simp [intOf]; omega
      · go_wp2_with (go_at_call 12; go_must (refine kd.mono ?_; rintro e w2 ⟨rfl, H2⟩))
        go_roundw
        case rel => exact ⟨k + 1, by omega, by go_num, by rw [hs3.out]; go_num, by rw [hs3.out]; exact (G1 _ _ H2).take (l1 := [_, _, _])⟩
        case measure => simp [intOf]; omega
    · obtain rfl : k = l.length := by omega
      have e : (l.map (·.1)).take l.length = l.map (·.1) := List.take_of_length_le (by simp)
      rw [e] at HL ⊢
      clear e hck
      go_wp2
      go_ret
      exact ⟨rfl, HL⟩

/-! No rogue at all. -/
theorem rogue_do_nil {cs : Array Value} (w : World) : Calls Tryd.prog 12 #[.pointer none, .agg cs] w fun e w' => e = .returned (.bool false) ∧ Below w.heap.size w w' := by
  have HA : St (fun _ => False) w _ [_] := (St.nil (fun _ => False) w).allocAt rfl cs 40
  go_enter Tryd.func12, Tryd.ntmps12
  go_wp2
  go_ret
  exact ⟨rfl, HA.below (Nat.le_refl _) (fun _ h => h.elim)⟩
theorem rogue_note_nil (w : World) : Calls Tryd.prog 10 #[.pointer none] w fun e w' => e = .returned (.int .i64 0) ∧ w' = w := by
  go_enter Tryd.func10, Tryd.ntmps10
  go_wp2
  go_ret
  exact ⟨rfl, rfl⟩
theorem rogue_images_nil (w : World) : Calls Tryd.prog 16 #[.pointer none] w fun e w' => e = .returned (.int .i64 0) ∧ w' = w := by
  go_enter Tryd.func16, Tryd.ntmps16
  go_wp2
  go_ret
  exact ⟨rfl, rfl⟩
end Go.Proofs.YtaafedpjifaghaaDoor
