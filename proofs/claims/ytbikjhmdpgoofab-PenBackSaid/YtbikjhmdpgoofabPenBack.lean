/- PenBack returns true at every input, and its arguments read as they did. No condition. -/
import Derived.Test.YtbikjhmdpgoofabPenBk
import Derived.Test.YtbikjhmdpgoofabPenF
import Derived.Test.YtbikjhmdpgoofabScript
import Derived.WalkKit
import Derived.ProofKit
import Derived.OpenShut
import Derived.ShutString
import Derived.ChangeOld
import Derived.Below
namespace Go.Proofs.Ytbikjhmdpgoofab.penBack
open Go.ChangeShapes Go.WideShapes Go.ChangeAt Go.RowKit
open Go.ChangeMaps (open_string shut_string)
set_option linter.unusedVariables false

theorem own : ownKnob Try.prog.godebug = none := by kernel_rfl
theorem laidOut : laidOutB Try.prog = true := by kernel_rfl

set_option maxHeartbeats 4000000 in
set_option maxRecDepth 100000 in
theorem back_walk {vb v : Value} {bs : List UInt8} {l : List POp} (w : World) (hb : BytesRO (fun _ => False) w vb bs) (hbl : bs.length ≤ 9223372036854775807) (hv : POpsRO w v l) :
    Calls Try.prog 7 #[v, vb] w fun e w' => e = .returned (.bool true) ∧ Below w.heap.size w w' := by
  obtain ⟨ao, cap, rfl, hll, hok, hcell⟩ := hv
  obtain ⟨ab, capb, rfl, _, _⟩ := id hb
  go_enter Try.func7, Try.ntmps7
  go_wp2_with fail
  refine (St.callPast (first03 _) (St.nil (fun _ => False) w)).mono ?_
  rintro e w1 ⟨rfl, H1⟩
  by_cases a1 : (2000 : Int) < bs.length
  · have b1 : decide ((2000 : Int) < bs.length) = true := by simpa using a1
    go_wp2
    go_ret
    exact ⟨rfl, H1.below (Nat.le_refl _) (fun _ h => h.elim)⟩
  · have b1 : decide ((2000 : Int) < bs.length) = false := by simpa using a1
    have H2 : St (fun _ => False) w (w1.alloc (.cells #[.slice none 0 0] 55)) [PenAt w1.heap.size []] := PenAt.mk (L := []) ((H1.row_nil 5 1).alloc _ _)
    clear H1
    obtain ⟨p, hp⟩ : ∃ p, w1.heap.size = p := ⟨_, rfl⟩
    go_upto_block 1 with (fail)
    rw [hp] at H2
    clear hp
    go_loopw [23] (fun j wr => ∃ (i : Nat), i ≤ l.length ∧ j = .int .i64 i ∧ i ≤ 60 ∧ (∀ x ∈ l.take i, x.B.length ≤ 300) ∧ (encs (l.take i)).length ≤ i * 700 ∧ St (fun _ => False) w wr [PenAt p (encs (l.take i))]) (fun j _ => l.length - (intOf j).toNat)
    case atStart => exact ⟨0, by omega, rfl, by omega, by simp, by simp [encs], H2⟩
    case round =>
      clear H2
      obtain ⟨i, hi, rfl, hi60, hsm, hL, HL⟩ := hrel
      by_cases hlt : i < l.length
      · obtain ⟨b, o, rfl, hb', hc⟩ := hcell (by rintro rfl; simp at hlt)
        obtain ⟨x, hx⟩ : ∃ x, l[i]? = some x := ⟨_, List.getElem?_eq_getElem hlt⟩
        have het := encs_take hx
        have hst := small_take hx hsm
        have hln := encs_take_len hx hL
        obtain ⟨hxB, hxl, hxn, hxk⟩ := hok x (List.mem_of_getElem? hx)
        obtain ⟨q0, q1, q2⟩ := pop_cells (hc i x hx) (HL.kept.block b hb' id)
        obtain ⟨kd, n, Bv, B⟩ := x
        simp only [encOp] at hxB hxl hxn hxk q0 q1 q2 hst hln het
        obtain ⟨ad, bcap, rfl, _, _⟩ := id hxB
        clear hx hc hcell
        have HA : St (fun _ => False) w _ [_, _] := (HL.allocAt rfl #[.int .i64 kd, .int .i64 n, .slice ad B.length bcap] 57).pick [1, 0]
        by_cases hi0 : 60 ≤ i
        · have z0 : decide ((60 : Int) ≤ (i : Int)) = true := by simp; omega
          have z1 : decide (60 ≤ i) = true := by simp; omega
          go_wp2
          go_ret
          exact ⟨rfl, HA.below (Nat.le_refl _) (fun _ h => h.elim)⟩
        · have z0 : decide ((60 : Int) ≤ (i : Int)) = false := by simp; omega
          have z1 : decide (60 ≤ i) = false := by simp; omega
          by_cases hB : (300 : Int) < B.length
          · have z2 : decide ((300 : Int) < (B.length : Int)) = true := by simpa using hB
            go_wp2
            go_ret
            exact ⟨rfl, HA.below (Nat.le_refl _) (fun _ h => h.elim)⟩
          · have z2 : decide ((300 : Int) < (B.length : Int)) = false := by simpa using hB
            have hst := hst (by omega)
            have hln := hln (by omega)
            have hm := and_max n hxn
            go_upto_region 11 with (fail)
            obtain ⟨wa, hwa⟩ : ∃ wa, wr.alloc (.cells #[.int .i64 kd, .int .i64 n, .slice ad B.length bcap] 57) = wa := ⟨_, rfl⟩
            obtain ⟨ob, hob⟩ : ∃ ob, wr.heap.size = ob := ⟨_, rfl⟩
            obtain ⟨L, hLe⟩ : ∃ L, encs (l.take i) = L := ⟨_, rfl⟩
            rw [hwa, hob, hLe] at HA
            rw [hLe] at het hL
            rw [hwa]
            simp only [hob]
            clear hwa hob q0 q1 q2 HL z0 z1 z2 hLe
            have v1 := vint_len (n % 9223372036854775808).toNat
            have v2 := vint_len (zig n)
            have v3 := vint_len B.length
            have hL6 : L.length ≤ 42000 := by omega
            have c1 := HA.cell 1 1 rfl rfl
            go_wp2_with fail
            refine (St.callOn (fun S' h => pen_number (n % 9223372036854775808) (by omega) (by omega) h) HA).mono ?_
            rintro e w7 ⟨rfl, H7⟩
            rw [if_pos (show 0 ≤ n % 9223372036854775808 by omega)] at H7
            have H7 : St (fun _ => False) w w7 [PenAt p (L ++ vint (n % 9223372036854775808).toNat), Blk ob #[.int .i64 kd, .int .i64 n, .slice ad B.length bcap] 57] := H7
            clear HA c1
            have c1 := H7.cell 1 1 rfl rfl
            go_wp2_with fail
            refine (St.callOn (fun S' h => pen_signed n hxn (by simp only [List.length_append]; omega) h) H7).mono ?_
            rintro e w8 ⟨rfl, H8⟩
            have H8 : St (fun _ => False) w w8 [PenAt p (L ++ vint (n % 9223372036854775808).toNat ++ vint (zig n)), Blk ob #[.int .i64 kd, .int .i64 n, .slice ad B.length bcap] 57] := H8
            clear H7 c1
            have c2 := H8.cell 1 2 rfl rfl
            go_wp2_with fail
            obtain ⟨S1, K1, R1, G1⟩ := St.lendIn (l1 := [_]) H8 hxB
            refine (pen_text (by simp only [List.length_append]; omega) hxl R1 K1).mono ?_
            rintro e w9 ⟨rfl, H2⟩
            rw [if_pos (show B.length ≤ 4096 by omega)] at H2
            have H9 : St (fun _ => False) w w9 [PenAt p (L ++ vint (n % 9223372036854775808).toNat ++ vint (zig n) ++ (vint B.length ++ B)), Blk ob #[.int .i64 kd, .int .i64 n, .slice ad B.length bcap] 57] := G1 _ _ H2
            clear H8 c2 H2 K1 R1 G1
            have c2 := H9.cell 1 2 rfl rfl
            go_wp2_with fail
            obtain ⟨S1, K1, R1, G1⟩ := St.lendIn (l1 := [_]) H9 hxB
            refine (pen_fixed (by simp only [List.length_append]; omega) R1 K1).mono ?_
            rintro e w10 ⟨rfl, H2⟩
            have H10 : St (fun _ => False) w w10 [PenAt p (L ++ vint (n % 9223372036854775808).toNat ++ vint (zig n) ++ (vint B.length ++ B) ++ B), Blk ob #[.int .i64 kd, .int .i64 n, .slice ad B.length bcap] 57] := G1 _ _ H2
            have heq : L ++ vint (n % 9223372036854775808).toNat ++ vint (zig n) ++ (vint B.length ++ B) ++ B = encs (l.take (i + 1)) := by rw [het]; simp only [List.append_assoc]
            rw [heq] at H10
            clear H9 c2 H2 K1 R1 G1 heq
            go_wp2
            go_roundw
            case rel => exact ⟨i + 1, by omega, by go_num, by omega, hst, hln, H10.take (l1 := [_])⟩
            case measure => simp [intOf]; omega
      · obtain rfl : i = l.length := by omega
        rw [List.take_length] at HL hsm hL
        go_wp2_with fail
        refine (St.callEx (fun S' h => pen_bytes (by omega) h) HL).mono ?_
        rintro e w7 ⟨v', rfl, H7⟩
        have H7 : St (fun _ => False) w w7 [Row 5 1 v' (encs l).length (bvs (encs l)), PenAt p (encs l)] := H7
        clear HL
        go_wp2_with fail
        refine (read_new (own_ro (H7.row 0 rfl)).1 (by omega)).mono ?_
        rintro e w8 ⟨b, rfl, H8⟩
        have H9 : St (fun _ => False) w w8 [ReaderAt b (encs l) 0] := (H7.call0 H8).pick [0]
        clear H7 H8
        go_upto_block 3 with (fail)
        go_loopw [59] (fun j wr => ∃ (i : Nat), i ≤ l.length ∧ j = .int .i64 i ∧ St (fun _ => False) w wr [ReaderAt b (encs (l.drop i)) 0]) (fun j _ => l.length - (intOf j).toNat)
        case atStart => exact ⟨0, by omega, rfl, by simpa using H9⟩
        case round =>
          clear H9
          obtain ⟨i, hi, rfl, HL⟩ := hrel
          by_cases hlt : i < l.length
          · obtain ⟨lb, o, rfl, hb', hc⟩ := hcell (by rintro rfl; simp at hlt)
            obtain ⟨x, hx⟩ : ∃ x, l[i]? = some x := ⟨_, List.getElem?_eq_getElem hlt⟩
            have hxs := hsm x (List.mem_of_getElem? hx)
            have hed := encs_drop hx
            obtain ⟨hxB, hxl, hxn, hxk⟩ := hok x (List.mem_of_getElem? hx)
            obtain ⟨q0, q1, q2⟩ := pop_cells (hc i x hx) (HL.kept.block lb hb' id)
            obtain ⟨kd, n, Bv, B⟩ := x
            simp only [encOp, List.append_assoc] at hxB hxl hxn hxk q0 q1 q2 hed hxs
            obtain ⟨ad, bcap, rfl, _, _⟩ := id hxB
            clear hx hc hcell
            have HA : St (fun _ => False) w _ [_, _] := (HL.allocAt rfl #[.int .i64 kd, .int .i64 n, .slice ad B.length bcap] 57).pick [1, 0]
            have hm := and_max n hxn
            go_upto_region 20 with (fail)
            obtain ⟨wa, hwa⟩ : ∃ wa, wr.alloc (.cells #[.int .i64 kd, .int .i64 n, .slice ad B.length bcap] 57) = wa := ⟨_, rfl⟩
            obtain ⟨ob, hob⟩ : ∃ ob, wr.heap.size = ob := ⟨_, rfl⟩
            rw [hwa, hob] at HA
            rw [hwa]
            simp only [hob]
            obtain ⟨R4, hR4⟩ : ∃ R, encs (l.drop (i + 1)) = R := ⟨_, rfl⟩
            obtain ⟨R3, hR3⟩ : ∃ R, B ++ R4 = R := ⟨_, rfl⟩
            obtain ⟨R2, hR2⟩ : ∃ R, vint B.length ++ (B ++ R3) = R := ⟨_, rfl⟩
            obtain ⟨R1, hR1⟩ : ∃ R, vint (zig n) ++ R2 = R := ⟨_, rfl⟩
            obtain ⟨R0, hR0⟩ : ∃ R, vint (n % 9223372036854775808).toNat ++ R1 = R := ⟨_, rfl⟩
            rw [hR4, hR3, hR2, hR1, hR0] at hed
            rw [hed] at HA
            have g0 : rnum R0 0 9223372036854775807 = (n % 9223372036854775808, R1, 0) := by
              have := rnum_vint (n := (n % 9223372036854775808).toNat) (most := 9223372036854775807) R1 (by omega) (by omega)
              rw [hR0] at this
              rw [this, Int.toNat_of_nonneg (by omega)]
            have g1 : rsig R1 0 = (n, R2, 0) := by rw [← hR1]; exact rsig_vint R2 hxn
            have g2 : rtext R2 0 300 = (B, R3, 0) := by rw [← hR2]; exact rtext_app R3 (by omega) (by omega)
            have g3 : rfix R3 0 B.length = (B, R4, 0) := by rw [← hR3]; exact rfix_app B R4
            have n0 := encs_drop_len l i
            rw [hed, ← hR0, ← hR1, ← hR2, ← hR3] at n0
            simp only [List.length_append] at n0
            have n2 : R2.length ≤ 140000000000000 := by rw [← hR2, ← hR3]; simp only [List.length_append]; omega
            have n3 : R3.length ≤ 140000000000000 := by rw [← hR3]; simp only [List.length_append]; omega
            clear n0
            clear hR0 hR1 hR2 hR3 hwa hob q0 q1 q2 HL
            have k0 := fun (w' : World) (S : Nat → Prop) (h : Sep w' [ReaderAt b R0 0] S) => read_number 9223372036854775807 h
            have k1 := fun (w' : World) (S : Nat → Prop) (h : Sep w' [ReaderAt b R1 0] S) => read_signed h
            have k2 := fun (w' : World) (S : Nat → Prop) (h : Sep w' [ReaderAt b R2 0] S) => read_text 300 (by omega) h
            have k3 := fun (w' : World) (S : Nat → Prop) (h : Sep w' [ReaderAt b R3 0] S) => read_fixed B.length (by omega) h
            rw [g0] at k0
            rw [g1] at k1
            rw [g2] at k2
            rw [g3] at k3
            clear g0 g1 g2 g3
            refine wp_script [(0, false), (2, false), (3, false), (4, false), (1, true), (5, false), (6, false), (7, false), (9, false), (10, false), (8, true), (11, false), (12, false), (13, false), (14, false), (17, false), (18, false), (19, false), (15, true), (16, false), (20, false), (21, false), (22, false), (23, false), (24, false), (25, false), (26, false), (29, false), (30, false), (31, false), (27, true), (28, false), (32, false), (33, false)] (Fam fun w' => St (fun _ => False) w w' [Blk ob #[.int .i64 kd, .int .i64 n, .slice ad B.length bcap] 57]) (fun w' => St (fun _ => False) w w' [ReaderAt b R0 0, Blk ob #[.int .i64 kd, .int .i64 n, .slice ad B.length bcap] 57]) (by kernel_rfl) (by rfl) (by kernel_rfl) (by kernel_rfl) HA.drew (Fam.st (fun _ h => h.pick [1])) ?_
            iterate 4 first
              | (apply script_pass
                 · rfl
                 · rfl
                 intro K hK
                 go_simp
                 refine hK _ ?_
                 clear hK K)
              | (apply script_step
                 · rfl
                 · rfl
                 · intro I hI w1 h1'
                   have h1 := hI.2 _ h1'
                   have c1 := h1.cell 0 1 rfl rfl
                   go_simp
                   first
                     | rfl
                     | exact ⟨rfl, h1'⟩
                     | (trace_state; fail)
                 intro K hK
                 go_simp
                 refine hK _ ?_
                 clear hK K)
            obtain ⟨V1, hV1⟩ := hide_rel (fun v I' => v = .int .i64 (n % 9223372036854775808) ∧ I' = fun w' => St (fun _ => False) w w' [ReaderAt b R1 0, Blk ob #[.int .i64 kd, .int .i64 n, .slice ad B.length bcap] 57])
            refine script_big V1 rfl rfl ?_ ?_
            · intro w1 h1
              go_simp
              refine (St.callOn (fun S' h => k0 _ S' h) h1).mono ?_
              rintro e w2 ⟨rfl, H2⟩
              exact ⟨_, rfl, _, (hV1.out _ _).2 ⟨rfl, rfl⟩, H2⟩
            · intro v I' hvI
              obtain ⟨rfl, rfl⟩ := (hV1.out _ _).1 hvI
              clear hvI hV1
              refine ⟨_, fun _ h => h, Fam.st (fun _ h => h.pick [1]), ?_⟩
              intro K hK
              go_simp
              refine hK _ ?_
              clear hK K
              iterate 5 first
                | (apply script_pass
                   · rfl
                   · rfl
                   intro K hK
                   go_simp
                   refine hK _ ?_
                   clear hK K)
                | (apply script_step
                   · rfl
                   · rfl
                   · intro I hI w1 h1'
                     have h1 := hI.2 _ h1'
                     have c1 := h1.cell 0 1 rfl rfl
                     go_simp
                     first
                       | rfl
                       | exact ⟨rfl, h1'⟩
                       | (trace_state; fail)
                   intro K hK
                   go_simp
                   refine hK _ ?_
                   clear hK K)
              obtain ⟨V2, hV2⟩ := hide_rel (fun v I' => v = .int .i64 n ∧ I' = fun w' => St (fun _ => False) w w' [ReaderAt b R2 0, Blk ob #[.int .i64 kd, .int .i64 n, .slice ad B.length bcap] 57])
              refine script_big V2 rfl rfl ?_ ?_
              · intro w1 h1
                go_simp
                refine (St.callOn (fun S' h => k1 _ S' h) h1).mono ?_
                rintro e w2 ⟨rfl, H2⟩
                exact ⟨_, rfl, _, (hV2.out _ _).2 ⟨rfl, rfl⟩, H2⟩
              · intro v I' hvI
                obtain ⟨rfl, rfl⟩ := (hV2.out _ _).1 hvI
                clear hvI hV2
                refine ⟨_, fun _ h => h, Fam.st (fun _ h => h.pick [1]), ?_⟩
                intro K hK
                go_simp
                refine hK _ ?_
                clear hK K
                iterate 7 first
                  | (apply script_pass
                     · rfl
                     · rfl
                     intro K hK
                     go_simp
                     refine hK _ ?_
                     clear hK K)
                  | (apply script_step
                     · rfl
                     · rfl
                     · intro I hI w1 h1'
                       have h1 := hI.2 _ h1'
                       have c2 := h1.cell 0 2 rfl rfl
                       have hcv := conv_ro' hxB (fun b hb hn => h1.kept.block b hb hn)
                       go_simp
                       first
                         | rfl
                         | exact ⟨rfl, h1'⟩
                         | (trace_state; fail)
                     intro K hK
                     go_simp
                     refine hK _ ?_
                     clear hK K)
                obtain ⟨V3, hV3⟩ := hide_rel (fun v I' => I' = fun w' => St (fun _ => False) w w' [Row 5 1 v B.length (bvs B), ReaderAt b R3 0, Blk ob #[.int .i64 kd, .int .i64 n, .slice ad B.length bcap] 57])
                refine script_big V3 rfl rfl ?_ ?_
                · intro w1 h1
                  go_simp
                  refine (St.callEx (fun S' h => k2 _ S' h) h1).mono ?_
                  rintro e w2 ⟨v', rfl, H2⟩
                  exact ⟨_, rfl, _, (hV3.out _ _).2 rfl, H2⟩
                · intro v I' hvI
                  obtain rfl := (hV3.out _ _).1 hvI
                  clear hvI hV3
                  refine ⟨Fam fun w' => St (fun _ => False) w w' [Blk ob #[.int .i64 kd, .int .i64 n, .slice ad B.length bcap] 57, Row 5 1 v B.length (bvs B)], Fam.mono (fun _ h => h.pick [0]), Fam.st (fun _ h => h.pick [2, 0]), ?_⟩
                  intro K hK
                  go_simp
                  refine hK _ ?_
                  clear hK K
                  iterate 11 first
                    | (apply script_pass
                       · rfl
                       · rfl
                       intro K hK
                       go_simp
                       refine hK _ ?_
                       clear hK K)
                    | (apply script_step
                       · rfl
                       · rfl
                       · intro I hI w1 h1'
                         have h1 := hI.2 _ h1'
                         have c2 := h1.cell 0 2 rfl rfl
                         have hcv := own_text' (h1.row 1 rfl)
                         have hcv2 := conv_ro' hxB (fun b hb hn => h1.kept.block b hb hn)
                         go_simp
                         first
                           | rfl
                           | exact ⟨rfl, h1'⟩
                           | (trace_state; fail)
                       intro K hK
                       go_simp
                       refine hK _ ?_
                       clear hK K)
                  obtain ⟨V4, hV4⟩ := hide_rel (fun u I' => I' = fun w' => St (fun _ => False) w w' [Row 5 1 u B.length (bvs B), ReaderAt b R4 0, Row 5 1 v B.length (bvs B), Blk ob #[.int .i64 kd, .int .i64 n, .slice ad B.length bcap] 57])
                  refine script_big V4 rfl rfl ?_ ?_
                  · intro w1 h1
                    go_simp
                    refine (St.callEx (fun S' h => k3 _ S' h) (h1.pick [1, 0, 2])).mono ?_
                    rintro e w2 ⟨v', rfl, H2⟩
                    exact ⟨_, rfl, _, (hV4.out _ _).2 rfl, H2⟩
                  · intro u I' hvI
                    obtain rfl := (hV4.out _ _).1 hvI
                    clear hvI hV4
                    refine ⟨Fam fun w' => St (fun _ => False) w w' [Blk ob #[.int .i64 kd, .int .i64 n, .slice ad B.length bcap] 57, Row 5 1 v B.length (bvs B), Row 5 1 u B.length (bvs B)], Fam.mono (fun _ h => h.pick [0, 1]), Fam.st (fun _ h => h.pick [3, 2, 0]), ?_⟩
                    intro K hK
                    go_simp
                    refine hK _ ?_
                    clear hK K
                    iterate 3 first
                      | (apply script_pass
                         · rfl
                         · rfl
                         intro K hK
                         go_simp
                         refine hK _ ?_
                         clear hK K)
                      | (apply script_step
                         · rfl
                         · rfl
                         · intro I hI w1 h1'
                           have h1 := hI.2 _ h1'
                           have hcv := own_text' (h1.row 2 rfl)
                           go_simp
                           first
                             | rfl
                             | exact ⟨rfl, h1'⟩
                             | (trace_state; fail)
                         intro K hK
                         go_simp
                         refine hK _ ?_
                         clear hK K)
                    refine script_nil ?_
                    intro w9 H9
                    have H9 : St (fun _ => False) w w9 [ReaderAt b R4 0] := H9.pick [1]
                    clear HA k0 k1 k2 k3
                    go_wp2
                    go_roundw
                    case rel => exact ⟨i + 1, by omega, by go_num, by rw [hR4]; exact H9⟩
                    case measure => simp [intOf]; omega
          · obtain rfl : i = l.length := by omega
            rw [List.drop_length] at HL
            have ke := fun (w' : World) (S : Nat → Prop) (h : Sep w' [ReaderAt b [] 0] S) => read_end h
            simp only [rend, ne_eq, not_true_eq_false, and_false, if_false] at ke
            go_wp2_with fail
            refine (St.callSame' (ke _ _ HL.sep) HL).mono ?_
            rintro e w9 ⟨rfl, H9⟩
            go_wp2_with fail
            have H10 : St (fun _ => False) w (w9.alloc (.cells #[.slice none 0 0] 55)) [PenAt w9.heap.size []] := PenAt.mk (L := []) (((H9.pick []).row_nil 5 1).alloc _ _)
            obtain ⟨q, hq⟩ : ∃ q, w9.heap.size = q := ⟨_, rfl⟩
            rw [hq] at H10 ⊢
            refine (read_new (BytesRO.later hb H10.kept) (by omega)).mono ?_
            rintro e w10 ⟨s, rfl, H11⟩
            have H12 : St (fun _ => False) w w10 [ReaderAt s bs 0, PenAt q []] := H10.call0 H11
            clear H9 H10 H11 HL hq
            go_upto_block 5 with (fail)
            go_loopw [] (fun wr => ∃ (r L : List UInt8) (e : Int), (e ≠ 0 → r = []) ∧ (e = 0 → L ++ r = bs) ∧ L.length ≤ 2000 ∧ r.length ≤ 2000 ∧ St (fun _ => False) w wr [ReaderAt s r e, PenAt q L]) (fun wr => leftOf s wr)
            case atStart => exact ⟨bs, [], 0, fun h => absurd rfl h, fun _ => rfl, by simp, by omega, H12⟩
            case round =>
              clear H12
              obtain ⟨r, L, e, hr1, hr2, hL2, hrl, HQ⟩ := hrel
              have hlf : rleft r e = r.length := by unfold rleft; split; (rw [hr1 (by assumption)]; rfl); rfl
              have kl := fun (w' : World) (S : Nat → Prop) (h : Sep w' [ReaderAt s r e] S) => read_left h
              rw [hlf] at kl
              by_cases h0 : 0 < r.length
              · have z0 : decide ((0 : Int) < (r.length : Int)) = true := by simpa using h0
                obtain rfl : e = 0 := by
                  rcases Int.decEq e 0 with h | h
                  · rw [hr1 h] at h0; simp at h0
                  · exact h
                have hm0 := leftOf_at HQ
                obtain ⟨X, hX⟩ : ∃ X, rword r = X := ⟨_, rfl⟩
                have ks := fun (w' : World) (S : Nat → Prop) (h : Sep w' [ReaderAt s r 0] S) => read_signed h
                have hok := rword_ok r
                have hback := fun v r' (h : rword r = (v, r', 0)) => rword_back h
                have hless : (rword r).2.1.length < r.length := by
                  match r, h0 with
                  | c :: t, _ => exact Nat.lt_succ_of_le (wordF_less 10 0 0 c t)
                simp only [rsig, ne_eq, not_true_eq_false, if_false] at ks
                rw [hX] at ks hok hback hless
                clear hX
                obtain ⟨v, r', e'⟩ := X
                simp only at ks hok hback hless
                go_wp2_with fail
                refine (St.callSame' (kl _ _ (HQ.pick [0]).sep) HQ).mono ?_
                rintro e w11 ⟨rfl, H11⟩
                clear HQ
                go_wp2_with fail
                refine (St.callOn (fun S' h => ks _ S' h) H11).mono ?_
                rintro e w12 ⟨rfl, H12⟩
                clear H11
                go_wp2_with fail
                refine (St.callSame' (read_err (H12.pick [0]).sep) H12).mono ?_
                rintro e w13 ⟨rfl, H13⟩
                clear H12
                by_cases he : e' = 0
                · subst he
                  have hb2 := hback v r' rfl
                  have hzz : L ++ vint (zig (zag v)) ++ r' = bs := by rw [zig_zag, List.append_assoc, ← hb2]; exact hr2 (by first | rfl | trivial)
                  have hzl : -9223372036854775808 ≤ zag v ∧ zag v ≤ 9223372036854775807 := by have := hok.1; unfold zag; split <;> omega
                  have hln : (L ++ vint (zig (zag v))).length ≤ 2000 := by have := congrArg List.length hzz; simp only [List.length_append] at this ⊢; omega
                  go_wp2_with fail
                  refine (St.callOn (fun S' h => pen_signed (zag v) hzl (by omega) h) (H13.pick [1, 0])).mono ?_
                  rintro e w14 ⟨rfl, H14⟩
                  have H14 : St (fun _ => False) w w14 [ReaderAt s r' 0, PenAt q (L ++ vint (zig (zag v)))] := H14.pick [1, 0]
                  have hm1 := leftOf_at H14
                  go_wp2
                  go_roundw
                  case rel => exact ⟨r', L ++ vint (zig (zag v)), 0, fun h => absurd rfl h, fun _ => hzz, hln, by omega, H14⟩
                  case measure => omega
                · have z1 : decide (e' = 0) = false := by simpa using he
                  have z2 : (e' == 0) = false := by simpa using he
                  have hm1 := leftOf_at H13
                  go_wp2
                  go_roundw
                  case rel => exact ⟨r', L, e', fun h => (hok.2.1 h).2, fun h => absurd h he, hL2, by omega, H13⟩
                  case measure => omega
              · obtain rfl : r = [] := List.eq_nil_of_length_eq_zero (by omega)
                go_wp2_with fail
                refine (St.callSame' (kl _ _ (HQ.pick [0]).sep) HQ).mono ?_
                rintro e' w11 ⟨rfl, H11⟩
                go_upto_region 30 with (fail)
                clear HQ kl hlf
                by_cases he : e = 0
                · subst he
                  have hLb : L = bs := by simpa using hr2 (by first | rfl | trivial)
                  refine wp_script [(0, false), (1, false), (2, false), (3, false), (4, false), (7, false), (8, false), (5, true), (6, false), (9, false), (10, false), (11, false)] (Fam fun w' => St (fun _ => False) w w' [ReaderAt s [] 0]) (fun w' => St (fun _ => False) w w' [ReaderAt s [] 0, PenAt q L]) (by kernel_rfl) (by rfl) (by kernel_rfl) (by kernel_rfl) H11.drew (Fam.st (fun _ h => h.pick [0])) ?_
                  iterate 7 first
                    | (apply script_pass
                       · rfl
                       · rfl
                       intro K hK
                       go_simp
                       refine hK _ ?_
                       clear hK K)
                    | (apply script_step
                       · rfl
                       · rfl
                       · intro I hI w1 h1'
                         have h1 := hI.2 _ h1'
                         have hcv := conv_ro' hb (fun b hb hn => h1.kept.block b hb hn)
                         go_simp
                         first
                           | rfl
                           | exact ⟨rfl, h1'⟩
                           | (go_at_call 40; with_reducible exact Fam.call0 h1' (read_err h1.sep))
                           | (trace_state; fail)
                       intro K hK
                       go_simp
                       refine hK _ ?_
                       clear hK K)
                  obtain ⟨V1, hV1⟩ := hide_rel (fun v I' => I' = fun w' => St (fun _ => False) w w' [Row 5 1 v L.length (bvs L), ReaderAt s [] 0, PenAt q L])
                  refine script_big V1 rfl rfl ?_ ?_
                  · intro w1 h1
                    go_simp
                    refine (St.callEx (fun S' h => pen_bytes (by omega) h) (h1.pick [1, 0])).mono ?_
                    rintro e w2 ⟨v', rfl, H2⟩
                    have H2 : St (fun _ => False) w w2 [Row 5 1 v' L.length (bvs L), PenAt q L, ReaderAt s [] 0] := H2
                    exact ⟨_, rfl, _, (hV1.out _ _).2 rfl, H2.pick [0, 2, 1]⟩
                  · intro v I' hvI
                    obtain rfl := (hV1.out _ _).1 hvI
                    clear hvI hV1
                    refine ⟨Fam fun w' => St (fun _ => False) w w' [ReaderAt s [] 0, Row 5 1 v L.length (bvs L)], Fam.mono (fun _ h => h.pick [0]), Fam.st (fun _ h => h.pick [1, 0]), ?_⟩
                    intro K hK
                    go_simp
                    refine hK _ ?_
                    clear hK K
                    subst hLb
                    iterate 4 first
                      | (apply script_pass
                         · rfl
                         · rfl
                         intro K hK
                         go_simp
                         refine hK _ ?_
                         clear hK K)
                      | (apply script_step
                         · rfl
                         · rfl
                         · intro I hI w1 h1'
                           have h1 := hI.2 _ h1'
                           have hcv := own_text' (h1.row 1 rfl)
                           go_simp
                           first
                             | rfl
                             | exact ⟨rfl, h1'⟩
                             | (trace_state; fail)
                         intro K hK
                         go_simp
                         refine hK _ ?_
                         clear hK K)
                    refine script_nil ?_
                    intro w15 H15
                    go_wp2
                    go_ret
                    exact ⟨rfl, H15.below (Nat.le_refl _) (fun _ h => h.elim)⟩
                · have z1 : decide (e = 0) = false := by simpa using he
                  have z2 : (e == 0) = false := by simpa using he
                  have z3 : (e != 0) = true := by simpa using he
                  refine wp_calm (fun w' => St (fun _ => False) w w' [ReaderAt s [] e, PenAt q L]) (by kernel_rfl) (by kernel_rfl) (H11.drew) ?_
                  iterate 12 first
                    | (apply calm_pass
                       · rfl
                       intro K hK
                       go_simp
                       refine hK _ ?_
                       clear hK K)
                    | (apply calm_step
                       · rfl
                       · intro w1 h1
                         go_simp
                         first
                           | rfl
                           | exact ⟨rfl, h1⟩
                           | (go_at_call 40; exact St.callSame' (read_err (h1.pick [0]).sep) h1)
                           | (trace_state; fail)
                       intro K hK
                       go_simp
                       refine hK _ ?_
                       clear hK K)
                  refine calm_nil ?_
                  intro w15 H15
                  go_wp2
                  go_ret
                  exact ⟨rfl, H15.below (Nat.le_refl _) (fun _ h => h.elim)⟩

theorem walk (v0 v1 : Value) (w : World) (h0 : R Try.prog w 52 v0.cells.toList) (s0 : ∃ a len cap, v0 = .slice a len cap) (h1 : R Try.prog w 29 v1.cells.toList) (s1 : ∃ a len cap, v1 = .slice a len cap) :
    Calls Try.prog 7 #[v0, v1] w fun e w' => e = .returned (.bool true) ∧ Below w.heap.size w w' := by
  obtain ⟨a, len, cap, rfl⟩ := s1
  obtain ⟨a', len', cap', rfl⟩ := s0
  obtain ⟨v, bs, e, hx, hl⟩ := R.bytes Try.underlying29 Try.underlying5 (by kernel_rfl) h1
  have e2 : Value.slice a len cap = v := by simpa [Value.cells] using e
  subst e2
  obtain ⟨v', l, e', hx'⟩ := pops_read h0
  have e3 : Value.slice a' len' cap' = v' := by simpa [Value.cells] using e'
  subst e3
  exact back_walk w hx hl hx'

set_option maxRecDepth 100000 in
theorem lifted (os : Os) (started : os.Started) (H : Type) (enc : TypeId × Value → H) :
    ReturnsInHanded {} Try.checked os 7 .any (Rows.penBackSpec.pre6 enc Try.prog Try.f7 Rows.penBackRow.domain false) (Rows.penBackSpec.post enc Try.prog Try.f7 false true false false) := by
  refine returnsInHanded_of_change (C := Try.checked) own started (by kernel_rfl) Try.func7
    (ChangeSpec.witness6 (enc := enc) (C := Try.checked) false ⟨#[], #[.slice none 0 0, .slice none 0 0], []⟩ 8 (by kernel_rfl) (by kernel_rfl) (by kernel_rfl) (by kernel_rfl)) ?_
  intro W base args ds gs before hval0 hW hcnd _
  have hval : ∀ (j : Nat) t v, Try.f7.params[j]? = some t → args[j]? = some v → Value.okWide Try.prog W .any base t v := hval0
  have hW' := hW
  obtain ⟨p, q, hA0, hV, rfl, hfz, hnd⟩ := hW
  have hA : DataW.TrodAll enc Try.prog W 0 (fun _ => true) true Try.f7.params.toList args.toList ds p := hA0
  rw [Try.params7] at hA hval
  obtain ⟨v0, vs0, d0, ds0, p0, q0, hargs, rfl, rfl, h0, r0⟩ := trodAll_cons hA
  obtain ⟨v1, vs1, d1, ds1, p1, q1, rfl, rfl, rfl, h1, r1⟩ := trodAll_cons r0
  obtain ⟨rfl, rfl, rfl⟩ := trodAll_nil r1
  obtain rfl : args = #[v0, v1] := by cases args; simp_all
  obtain ⟨rfl, rfl⟩ := trodVars_none hV
  have lt0 : ∀ x ∈ p0, x.block < W.heap.size := by obtain ⟨m, hm⟩ := h0; exact DataW.trod_lt m _ _ _ hm
  have w0 : R Try.prog W 52 v0.cells.toList := by
    obtain ⟨m, hm⟩ := h0
    exact ⟨H, enc, _, _, m, _, hm⟩
  have s0 : ∃ a len cap, v0 = .slice a len cap := okWide_slice Try.underlying52 (hval 0 52 v0 rfl rfl)
  have lt1 : ∀ x ∈ p1, x.block < W.heap.size := by obtain ⟨m, hm⟩ := h1; exact DataW.trod_lt m _ _ _ hm
  have w1 : R Try.prog W 29 v1.cells.toList := by
    obtain ⟨m, hm⟩ := h1
    exact ⟨H, enc, _, _, m, _, hm⟩
  have s1 : ∃ a len cap, v1 = .slice a len cap := okWide_slice Try.underlying29 (hval 1 29 v1 rfl rfl)
  clear hA0 hval0
  refine (walk v0 v1 W w0 s0 w1 s1).mono fun e W' ⟨he, bel⟩ => ?_
  subst he
  exact ⟨_, rfl, _, _, _, [], _, [], hW', trodAll_mk1 (shut_bool Try.underlying4 _), (trodAll_cons_mk (Below.trod laidOut (by kernel_rfl) (of_decide_eq_true (by kernel_rfl)) h0 bel lt0) (trodAll_cons_mk (Below.trod laidOut (by kernel_rfl) (of_decide_eq_true (by kernel_rfl)) h1 bel lt1) trodAll_mk0)), rfl, bel.frame _, fun h => by cases h⟩

theorem over : Rows.penBackRow.holds Try.pinned (OpenSpec.ofChange Rows.penBackSpec) :=
  OpenClaim.holds_of_wide 7 Try.f7 rfl rfl rfl rfl rfl rfl rfl ⟨rfl, rfl, rfl, rfl, rfl⟩ rfl rfl rfl rfl rfl (by kernel_rfl) Try.func7 (by kernel_rfl)
    (of_decide_eq_true (by kernel_rfl)) (by unfold Func.isWrapper; first | (rw [if_pos (by decide +kernel)]; kernel_rfl) | (rw [if_neg (by decide +kernel)]; exact ⟨rfl, rfl⟩))
    (fun os started H enc _ => lifted os started H enc)

/-- THE STATEMENT -/
theorem proved : Rows.PenBackSaid := over
#print axioms proved

end Go.Proofs.Ytbikjhmdpgoofab.penBack
