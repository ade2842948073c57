/- PenReads returns true at every input, and its arguments read as they did. No condition. -/
import Derived.Test.YtbikjhmdpgoofabPenIn
import Derived.Test.YtbikjhmdpgoofabRefPenB
import Derived.Test.YtbikjhmdpgoofabPenF
import Derived.Test.YtbikjhmdpgoofabPlan
import Derived.Test.YtbikjhmdpgoofabPenRd
import Derived.WalkKit
import Derived.ProofKit
import Derived.OpenShut
import Derived.ShutString
import Derived.ChangeOld
import Derived.Below
namespace Go.Proofs.Ytbikjhmdpgoofab.penReads
open Go.ChangeShapes Go.WideShapes Go.ChangeAt Go.RowKit
open Go.ChangeMaps (open_string shut_string)
set_option linter.unusedVariables false

theorem own : ownKnob Try.prog.godebug = none := by kernel_rfl
theorem laidOut : laidOutB Try.prog = true := by kernel_rfl

set_option maxHeartbeats 4000000 in
set_option maxRecDepth 100000 in
theorem reads_walk {vb v : Value} {bs : List UInt8} {l : List POp} (w : World) (hb : BytesRO (fun _ => False) w vb bs) (hbl : bs.length ≤ 9223372036854775807) (hv : POpsRO w v l) :
    Calls Try.prog 6 #[vb, v] w fun e w' => e = .returned (.bool true) ∧ Below w.heap.size w w' := by
  obtain ⟨ao, cap, rfl, hll, hok, hcell⟩ := hv
  obtain ⟨ab, capb, rfl, _, _⟩ := id hb
  go_enter Try.func6, Try.ntmps6
  go_wp2_with fail
  refine (St.callPast (first03 _) (St.nil (fun _ => False) w)).mono ?_
  rintro e w1 ⟨rfl, H1⟩
  by_cases a1 : (3000 : Int) < bs.length
  · have b1 : decide ((3000 : Int) < bs.length) = true := by simpa using a1
    go_wp2
    go_ret
    exact ⟨rfl, H1.below (Nat.le_refl _) (fun _ h => h.elim)⟩
  · have b1 : decide ((3000 : Int) < bs.length) = false := by simpa using a1
    by_cases a2 : (60 : Int) < l.length
    · have b2 : decide ((60 : Int) < l.length) = true := by simpa using a2
      go_wp2
      go_ret
      exact ⟨rfl, H1.below (Nat.le_refl _) (fun _ h => h.elim)⟩
    · have b2 : decide ((60 : Int) < l.length) = false := by simpa using a2
      go_upto_region 5 with (fail)
      refine wp_plan (.small 0 (.small 2 (.small 3 (.small 4 (.fork 1 5 (.small 6 (.alone 5 (.small 7 .nil))) (.alone 1 (.small 6 (.small 7 .nil)))))))) (Fam fun w' => St (fun _ => False) w w' []) (fun w' => St (fun _ => False) w w' []) (by kernel_rfl) (by rfl) (by kernel_rfl) (by kernel_rfl) H1.drew (Fam.st (fun _ h => h)) ?_
      iterate 4 first
        | (apply plan_pass
           · rfl
           · rfl
           intro K hK
           go_simp
           refine hK _ ?_
           clear hK K)
        | (apply plan_step
           · rfl
           · rfl
           · intro I hI w1 h1'
             have h1 := hI.2 _ h1'
             have hcv := conv_ro' hb (fun b hb hn => h1.kept.block b hb hn)
             go_simp
             first
               | rfl
               | exact ⟨rfl, h1'⟩
           intro K hK
           go_simp
           refine hK _ ?_
           clear hK K)
      obtain ⟨V1, hV1⟩ := hide_rel (fun v I' => ∃ b, v = .pointer (some ⟨b, 0, none⟩) ∧ I' = fun w' => St (fun _ => False) w w' [ReaderAt b bs 0])
      obtain ⟨V2, hV2⟩ := hide_rel (fun v I' => ∃ g, v = .pointer (some ⟨g, 0, none⟩) ∧ I' = fun w' => St (fun _ => False) w w' [TapeAt g bs 0])
      refine plan_fork V1 V2 rfl rfl rfl rfl ?_ ?_ ?_ ?_
      · intro w1 h1
        go_simp
        refine (read_new (BytesRO.later hb h1.kept) (by omega)).mono ?_
        rintro e w2 ⟨b, rfl, H2⟩
        exact ⟨_, rfl, _, (hV1.out _ _).2 ⟨b, rfl, rfl⟩, h1.call0 H2⟩
      · intro w1 h1
        go_simp
        exact ⟨_, (hV2.out _ _).2 ⟨w1.heap.size, rfl, rfl⟩, h1.alloc _ _⟩
      case' h.h.h.h.refine_3 =>
        intro v I' hvI
        obtain ⟨b, rfl, rfl⟩ := (hV1.out _ _).1 hvI
        clear hvI hV1 hV2
        refine ⟨_, fun _ h => h, Fam.st (fun _ h => ⟨h.kept, trivial⟩), ?_⟩
        intro K hK
        go_simp
        refine hK _ ?_
        clear hK K
        iterate 1 first
          | (apply plan_pass
             · rfl
             · rfl
             intro K hK
             go_simp
             refine hK _ ?_
             clear hK K)
          | (apply plan_step
             · rfl
             · rfl
             · intro I hI w1 h1'
               have h1 := hI.2 _ h1'
               go_simp
               first
                 | rfl
                 | exact ⟨rfl, h1'⟩
             intro K hK
             go_simp
             refine hK _ ?_
             clear hK K)
        obtain ⟨V3, hV3⟩ := hide_rel (fun v I' => ∃ g, v = .pointer (some ⟨g, 0, none⟩) ∧ I' = fun w' => St (fun _ => False) w w' [ReaderAt b bs 0, TapeAt g bs 0])
        refine plan_alone V3 rfl rfl ?_ ?_
        · intro w1 h1
          go_simp
          exact ⟨_, (hV3.out _ _).2 ⟨w1.heap.size, rfl, rfl⟩, (h1.alloc #[textV bs, .int .i64 0] 70).pick [1, 0]⟩
        intro v I' hvI
        obtain ⟨g, rfl, rfl⟩ := (hV3.out _ _).1 hvI
        clear hvI hV3
        refine ⟨_, fun _ h => h, Fam.st (fun _ h => ⟨h.kept, trivial⟩), ?_⟩
        intro K hK
        go_simp
        refine hK _ ?_
        clear hK K
        iterate 1 first
          | (apply plan_pass
             · rfl
             · rfl
             intro K hK
             go_simp
             refine hK _ ?_
             clear hK K)
          | (apply plan_step
             · rfl
             · rfl
             · intro I hI w1 h1'
               have h1 := hI.2 _ h1'
               go_simp
               first
                 | rfl
                 | exact ⟨rfl, h1'⟩
             intro K hK
             go_simp
             refine hK _ ?_
             clear hK K)
        refine plan_nil ?_
        intro w7 H7
      case' h.h.h.h.refine_4 =>
        intro v I' hvI
        obtain ⟨g, rfl, rfl⟩ := (hV2.out _ _).1 hvI
        clear hvI hV1 hV2
        refine ⟨_, fun _ h => h, Fam.st (fun _ h => ⟨h.kept, trivial⟩), ?_⟩
        intro K hK
        go_simp
        refine hK _ ?_
        clear hK K
        obtain ⟨V3, hV3⟩ := hide_rel (fun v I' => ∃ b, v = .pointer (some ⟨b, 0, none⟩) ∧ I' = fun w' => St (fun _ => False) w w' [ReaderAt b bs 0, TapeAt g bs 0])
        refine plan_alone V3 rfl rfl ?_ ?_
        · intro w1 h1
          go_simp
          refine (read_new (BytesRO.later hb h1.kept) (by omega)).mono ?_
          rintro e w2 ⟨b, rfl, H2⟩
          exact ⟨_, rfl, _, (hV3.out _ _).2 ⟨b, rfl, rfl⟩, h1.call0 H2⟩
        intro v I' hvI
        obtain ⟨b, rfl, rfl⟩ := (hV3.out _ _).1 hvI
        clear hvI hV3
        refine ⟨_, fun _ h => h, Fam.st (fun _ h => ⟨h.kept, trivial⟩), ?_⟩
        intro K hK
        go_simp
        refine hK _ ?_
        clear hK K
        iterate 2 first
          | (apply plan_pass
             · rfl
             · rfl
             intro K hK
             go_simp
             refine hK _ ?_
             clear hK K)
          | (apply plan_step
             · rfl
             · rfl
             · intro I hI w1 h1'
               have h1 := hI.2 _ h1'
               go_simp
               first
                 | rfl
                 | exact ⟨rfl, h1'⟩
             intro K hK
             go_simp
             refine hK _ ?_
             clear hK K)
        refine plan_nil ?_
        intro w7 H7
      all_goals
        clear H1
        go_upto_block 1 with (fail)
        go_loopw [29] (fun j wr => ∃ (i : Nat) (r : List UInt8) (e : Int), i ≤ l.length ∧ j = .int .i64 i ∧ Sunk bs r e ∧ St (fun _ => False) w wr [ReaderAt b r e, TapeAt g r e]) (fun j _ => l.length - (intOf j).toNat)
        case atStart => exact ⟨0, bs, 0, by omega, rfl, ⟨fun h => absurd rfl h, Nat.le_refl _⟩, H7⟩
        case round =>
          clear H7
          obtain ⟨i, r, e, hi, rfl, hs, HL⟩ := hrel
          by_cases hlt : i < l.length
          · obtain ⟨lb, lo, rfl, hlb, hc⟩ := hcell (by rintro rfl; simp at hlt)
            obtain ⟨x, hx⟩ : ∃ x, l[i]? = some x := ⟨_, List.getElem?_eq_getElem hlt⟩
            obtain ⟨hxB, hxl, hxn, hxk⟩ := hok x (List.mem_of_getElem? hx)
            obtain ⟨q0, q1, q2⟩ := pop_cells (hc i x hx) (HL.kept.block lb hlb id)
            obtain ⟨kd, n, Bv, B⟩ := x
            simp only at hxB hxl hxn hxk q0 q1 q2
            obtain ⟨ad, bcap, rfl, _, _⟩ := id hxB
            clear hx hc hcell
            have HA : St (fun _ => False) w _ [_, _, _] := (HL.allocAt rfl #[.int .i64 kd, .int .i64 n, .slice ad B.length bcap] 57).pick [1, 2, 0]
            obtain ⟨kk, hkk⟩ : ∃ kk : Nat, (IntKind.u64.wrap kd) % 5 = (kk : Int) := ⟨((IntKind.u64.wrap kd) % 5).toNat, by omega⟩
            have hk5 : kk < 5 := by omega
            have hw2 : (IntKind.u64.wrap kd).tmod 5 = (kk : Int) := by rw [Int.tmod_eq_emod_of_nonneg (by simp [IntKind.wrap, IntKind.bits, IntKind.signed]; omega)]; exact hkk
            go_upto_region 14 with (fail)
            obtain ⟨wa, hwa⟩ : ∃ wa, wr.alloc (.cells #[.int .i64 kd, .int .i64 n, .slice ad B.length bcap] 57) = wa := ⟨_, rfl⟩
            obtain ⟨ob, hob⟩ : ∃ ob, wr.heap.size = ob := ⟨_, rfl⟩
            rw [hwa, hob] at HA
            rw [hwa]
            simp only [hob]
            clear hwa hob q0 q1 q2 hkk hw2 HL
            rcases (show kk = 0 ∨ kk = 1 ∨ kk = 2 ∨ kk = 3 ∨ kk = 4 by omega) with hk | hk | hk | hk | hk
            · obtain ⟨X, hX⟩ : ∃ X, rnum r e n = X := ⟨_, rfl⟩
              have hs2 := hs.trans (rnum_sunk n hs.1)
              rw [hX] at hs2
              have kA := fun (w' : World) (S : Nat → Prop) (h : Sep w' [ReaderAt b r e] S) => read_number n h
              have kB := fun (w' : World) (S : Nat → Prop) (h : Sep w' [TapeAt g r e] S) => tape_number n (by have := hs.2; omega) h
              rw [hX] at kA kB
              clear hX
              obtain ⟨vv, r2, e2'⟩ := X
              simp only at kA kB hs2
              have e0 : ((kk : Int) == 0) = true := by simp; omega
              have e1 : ((kk : Int) == 1) = false := by simp; omega
              have e2 : ((kk : Int) == 2) = false := by simp; omega
              have e3 : ((kk : Int) == 3) = false := by simp; omega
              clear hk hk5
              go_upto_region 15 with (fail)
              refine wp_script [(0, false), (1, false), (2, false), (4, false), (5, false), (6, false), (3, true), (7, true), (8, false), (9, false)] (Fam fun w' => St (fun _ => False) w w' [Blk ob #[.int .i64 kd, .int .i64 n, .slice ad B.length bcap] 57]) (fun w' => St (fun _ => False) w w' [ReaderAt b r e, TapeAt g r e, Blk ob #[.int .i64 kd, .int .i64 n, .slice ad B.length bcap] 57]) (by kernel_rfl) (by rfl) (by kernel_rfl) (by kernel_rfl) HA.drew (Fam.st (fun _ h => h.pick [2])) ?_
              iterate 6 first
                | (apply script_pass
                   · rfl
                   · rfl
                   intro K hK
                   go_simp
                   refine hK _ ?_
                   clear hK K)
                | (apply script_step
                   · rfl
                   · rfl
                   · intro I hI w1 h1'
                     have h1 := hI.2 _ h1'
                     have c1 := h1.cell 0 1 rfl rfl
                     go_simp
                     first
                       | rfl
                       | exact ⟨rfl, h1'⟩
                   intro K hK
                   go_simp
                   refine hK _ ?_
                   clear hK K)
              obtain ⟨V1, hV1⟩ := hide_rel (fun v I' => v = .int .i64 vv ∧ I' = fun w' => St (fun _ => False) w w' [ReaderAt b r2 e2', TapeAt g r e, Blk ob #[.int .i64 kd, .int .i64 n, .slice ad B.length bcap] 57])
              obtain ⟨V2, hV2⟩ := hide_rel (fun v I' => v = .int .i64 vv ∧ I' = fun w' => St (fun _ => False) w w' [ReaderAt b r2 e2', TapeAt g r2 e2', Blk ob #[.int .i64 kd, .int .i64 n, .slice ad B.length bcap] 57])
              refine script_big V1 rfl rfl ?_ ?_
              · intro w1 h1
                go_simp
                refine (St.callOn (fun S' h => kA _ S' h) h1).mono ?_
                rintro e w2 ⟨rfl, H2⟩
                exact ⟨_, rfl, _, (hV1.out _ _).2 ⟨rfl, rfl⟩, H2⟩
              · intro v I' hvI
                obtain ⟨rfl, rfl⟩ := (hV1.out _ _).1 hvI
                clear hvI hV1
                refine ⟨_, fun _ h => h, Fam.st (fun _ h => h.pick [2]), ?_⟩
                intro K hK
                go_simp
                refine hK _ ?_
                clear hK K
                refine script_big V2 rfl rfl ?_ ?_
                · intro w1 h1
                  go_simp
                  refine (St.callOn (fun S' h => kB _ S' h) (h1.pick [1, 0, 2])).mono ?_
                  rintro e w2 ⟨rfl, H2⟩
                  exact ⟨_, rfl, _, (hV2.out _ _).2 ⟨rfl, rfl⟩, H2.pick [1, 0, 2]⟩
                · intro v I' hvI
                  obtain ⟨rfl, rfl⟩ := (hV2.out _ _).1 hvI
                  clear hvI hV2
                  refine ⟨_, fun _ h => h, Fam.st (fun _ h => h.pick [2]), ?_⟩
                  intro K hK
                  go_simp
                  refine hK _ ?_
                  clear hK K
                  iterate 2 first
                    | (apply script_pass
                       · rfl
                       · rfl
                       intro K hK
                       go_simp
                       refine hK _ ?_
                       clear hK K)
                    | (apply script_step
                       · rfl
                       · rfl
                       · intro I hI w1 h1'
                         have h1 := hI.2 _ h1'
                         go_simp
                         first
                           | rfl
                           | exact ⟨rfl, h1'⟩
                       intro K hK
                       go_simp
                       refine hK _ ?_
                       clear hK K)
                  refine script_nil ?_
                  intro w9 H9
                  clear HA kA kB
                  go_upto_region 22 with (fail)
                  have hlf : rleft r2 e2' = r2.length := by unfold rleft; split; (rw [hs2.1 (by assumption)]; rfl); rfl
                  have hps : (⟨r2.toArray⟩ : ByteArray).size = r2.length := by simp [ByteArray.size]
                  have kl := fun (w' : World) (S : Nat → Prop) (h : Sep w' [ReaderAt b r2 e2'] S) => read_left h
                  rw [hlf] at kl
                  refine wp_calm (fun w' => St (fun _ => False) w w' [ReaderAt b r2 e2', TapeAt g r2 e2', Blk ob #[.int .i64 kd, .int .i64 n, .slice ad B.length bcap] 57]) (by kernel_rfl) (by kernel_rfl) (H9.drew) ?_
                  iterate 28 first
                    | (apply calm_pass
                       · rfl
                       intro K hK
                       go_simp
                       refine hK _ ?_
                       clear hK K)
                    | (apply calm_step
                       · rfl
                       · intro w1 h1
                         have c0 := h1.cell 1 0 rfl rfl
                         have c1 := h1.cell 1 1 rfl rfl
                         go_simp
                         first
                           | rfl
                           | exact ⟨rfl, h1⟩
                           | (go_at_call 40; exact St.callSame' (read_err (h1.pick [0]).sep) h1)
                           | (go_at_call 41; exact St.callSame' (read_end (h1.pick [0]).sep) h1)
                           | (go_at_call 42; exact St.callSame' (tape_end (h1.pick [1]).sep) h1)
                           | (go_at_call 43; exact St.callSame' (kl _ _ (h1.pick [0]).sep) h1)
                       intro K hK
                       go_simp
                       refine hK _ ?_
                       clear hK K)
                  refine calm_nil ?_
                  intro w10 H10
                  go_wp2
                  go_roundw
                  case rel => exact ⟨i + 1, r2, e2', by omega, by go_num, hs2, H10.take (l1 := [_, _])⟩
                  case measure => simp [intOf]; omega
            · obtain ⟨X, hX⟩ : ∃ X, rsig r e = X := ⟨_, rfl⟩
              have hs2 := hs.trans (rsig_sunk hs.1)
              rw [hX] at hs2
              have kA := fun (w' : World) (S : Nat → Prop) (h : Sep w' [ReaderAt b r e] S) => read_signed h
              have kB := fun (w' : World) (S : Nat → Prop) (h : Sep w' [TapeAt g r e] S) => tape_signed (by have := hs.2; omega) h
              rw [hX] at kA kB
              clear hX
              obtain ⟨vv, r2, e2'⟩ := X
              simp only at kA kB hs2
              have e0 : ((kk : Int) == 0) = false := by simp; omega
              have e1 : ((kk : Int) == 1) = true := by simp; omega
              have e2 : ((kk : Int) == 2) = false := by simp; omega
              have e3 : ((kk : Int) == 3) = false := by simp; omega
              clear hk hk5
              go_wp2_with fail
              refine (St.callOn (fun S' h => kA _ S' h) HA).mono ?_
              rintro e' w8 ⟨rfl, H8⟩
              go_wp2_with fail
              refine (St.callOn (fun S' h => kB _ S' h) (H8.pick [1, 0, 2])).mono ?_
              rintro e' w9 ⟨rfl, H9⟩
              have H9 : St (fun _ => False) w w9 [ReaderAt b r2 e2', TapeAt g r2 e2', Blk ob #[.int .i64 kd, .int .i64 n, .slice ad B.length bcap] 57] := H9.pick [1, 0, 2]
              clear HA H8 kA kB
              go_upto_region 22 with (fail)
              have hlf : rleft r2 e2' = r2.length := by unfold rleft; split; (rw [hs2.1 (by assumption)]; rfl); rfl
              have hps : (⟨r2.toArray⟩ : ByteArray).size = r2.length := by simp [ByteArray.size]
              have kl := fun (w' : World) (S : Nat → Prop) (h : Sep w' [ReaderAt b r2 e2'] S) => read_left h
              rw [hlf] at kl
              refine wp_calm (fun w' => St (fun _ => False) w w' [ReaderAt b r2 e2', TapeAt g r2 e2', Blk ob #[.int .i64 kd, .int .i64 n, .slice ad B.length bcap] 57]) (by kernel_rfl) (by kernel_rfl) (H9.drew) ?_
              iterate 28 first
                | (apply calm_pass
                   · rfl
                   intro K hK
                   go_simp
                   refine hK _ ?_
                   clear hK K)
                | (apply calm_step
                   · rfl
                   · intro w1 h1
                     have c0 := h1.cell 1 0 rfl rfl
                     have c1 := h1.cell 1 1 rfl rfl
                     go_simp
                     first
                       | rfl
                       | exact ⟨rfl, h1⟩
                       | (go_at_call 40; exact St.callSame' (read_err (h1.pick [0]).sep) h1)
                       | (go_at_call 41; exact St.callSame' (read_end (h1.pick [0]).sep) h1)
                       | (go_at_call 42; exact St.callSame' (tape_end (h1.pick [1]).sep) h1)
                       | (go_at_call 43; exact St.callSame' (kl _ _ (h1.pick [0]).sep) h1)
                   intro K hK
                   go_simp
                   refine hK _ ?_
                   clear hK K)
              refine calm_nil ?_
              intro w10 H10
              go_wp2
              go_roundw
              case rel => exact ⟨i + 1, r2, e2', by omega, by go_num, hs2, H10.take (l1 := [_, _])⟩
              case measure => simp [intOf]; omega
            · obtain ⟨X, hX⟩ : ∃ X, rtext r e n = X := ⟨_, rfl⟩
              have hs2 := hs.trans (rtext_sunk n hs.1)
              rw [hX] at hs2
              have kA := fun (w' : World) (S : Nat → Prop) (h : Sep w' [ReaderAt b r e] S) => read_text n (by have := hs.2; omega) h
              have kB := fun (w' : World) (S : Nat → Prop) (h : Sep w' [TapeAt g r e] S) => tape_text n (by have := hs.2; omega) h
              rw [hX] at kA kB
              clear hX
              obtain ⟨tx, r2, e2'⟩ := X
              simp only at kA kB hs2
              have e0 : ((kk : Int) == 0) = false := by simp; omega
              have e1 : ((kk : Int) == 1) = false := by simp; omega
              have e2 : ((kk : Int) == 2) = true := by simp; omega
              have e3 : ((kk : Int) == 3) = false := by simp; omega
              clear hk hk5
              go_upto_region 19 with (fail)
              refine wp_script [(0, false), (1, false), (2, false), (5, false), (6, false), (7, false), (3, true), (4, false), (8, true), (9, false), (10, false)] (Fam fun w' => St (fun _ => False) w w' [Blk ob #[.int .i64 kd, .int .i64 n, .slice ad B.length bcap] 57]) (fun w' => St (fun _ => False) w w' [ReaderAt b r e, TapeAt g r e, Blk ob #[.int .i64 kd, .int .i64 n, .slice ad B.length bcap] 57]) (by kernel_rfl) (by rfl) (by kernel_rfl) (by kernel_rfl) HA.drew (Fam.st (fun _ h => h.pick [2])) ?_
              iterate 6 first
                | (apply script_pass
                   · rfl
                   · rfl
                   intro K hK
                   go_simp
                   refine hK _ ?_
                   clear hK K)
                | (apply script_step
                   · rfl
                   · rfl
                   · intro I hI w1 h1'
                     have h1 := hI.2 _ h1'
                     have c1 := h1.cell 0 1 rfl rfl
                     go_simp
                     first
                       | rfl
                       | exact ⟨rfl, h1'⟩
                   intro K hK
                   go_simp
                   refine hK _ ?_
                   clear hK K)
              obtain ⟨V1, hV1⟩ := hide_rel (fun v I' => I' = fun w' => St (fun _ => False) w w' [Row 5 1 v tx.length (bvs tx), ReaderAt b r2 e2', TapeAt g r e, Blk ob #[.int .i64 kd, .int .i64 n, .slice ad B.length bcap] 57])
              refine script_big V1 rfl rfl ?_ ?_
              · intro w1 h1
                go_simp
                refine (St.callEx (fun S' h => kA _ S' h) h1).mono ?_
                rintro e w2 ⟨v', rfl, H2⟩
                exact ⟨_, rfl, _, (hV1.out _ _).2 rfl, H2⟩
              · intro v I' hvI
                obtain rfl := (hV1.out _ _).1 hvI
                clear hvI hV1
                obtain ⟨V2, hV2⟩ := hide_rel (fun u I' => u = textV tx ∧ I' = fun w' => St (fun _ => False) w w' [Row 5 1 v tx.length (bvs tx), ReaderAt b r2 e2', TapeAt g r2 e2', Blk ob #[.int .i64 kd, .int .i64 n, .slice ad B.length bcap] 57])
                refine ⟨Fam fun w' => St (fun _ => False) w w' [Row 5 1 v tx.length (bvs tx), Blk ob #[.int .i64 kd, .int .i64 n, .slice ad B.length bcap] 57], Fam.mono (fun _ h => h.pick [1]), Fam.st (fun _ h => h.pick [0, 3]), ?_⟩
                intro K hK
                go_simp
                refine hK _ ?_
                clear hK K
                iterate 1 first
                  | (apply script_pass
                     · rfl
                     · rfl
                     intro K hK
                     go_simp
                     refine hK _ ?_
                     clear hK K)
                  | (apply script_step
                     · rfl
                     · rfl
                     · intro I hI w1 h1'
                       have h1 := hI.2 _ h1'
                       have hcv := own_text' (h1.row 0 rfl)
                       go_simp
                       first
                         | rfl
                         | exact ⟨rfl, h1'⟩
                     intro K hK
                     go_simp
                     refine hK _ ?_
                     clear hK K)
                refine script_big V2 rfl rfl ?_ ?_
                · intro w1 h1
                  go_simp
                  refine (St.callOn (fun S' h => kB _ S' h) (h1.pick [2, 0, 1, 3])).mono ?_
                  rintro e w2 ⟨rfl, H2⟩
                  exact ⟨_, rfl, _, (hV2.out _ _).2 ⟨rfl, rfl⟩, H2.pick [1, 2, 0, 3]⟩
                · intro v' I' hvI
                  obtain ⟨rfl, rfl⟩ := (hV2.out _ _).1 hvI
                  clear hvI hV2
                  refine ⟨_, fun _ h => h, Fam.st (fun _ h => h.pick [0, 3]), ?_⟩
                  intro K hK
                  unfold textV
                  go_simp
                  refine hK _ ?_
                  clear hK K
                  iterate 2 first
                    | (apply script_pass
                       · rfl
                       · rfl
                       intro K hK
                       go_simp
                       refine hK _ ?_
                       clear hK K)
                    | (apply script_step
                       · rfl
                       · rfl
                       · intro I hI w1 h1'
                         have h1 := hI.2 _ h1'
                         go_simp
                         first
                           | rfl
                           | exact ⟨rfl, h1'⟩
                       intro K hK
                       go_simp
                       refine hK _ ?_
                       clear hK K)
                  refine script_nil ?_
                  intro w9 H9
                  have H9 : St (fun _ => False) w w9 [ReaderAt b r2 e2', TapeAt g r2 e2', Blk ob #[.int .i64 kd, .int .i64 n, .slice ad B.length bcap] 57] := H9.pick [1, 2, 3]
                  clear HA kA kB
                  go_upto_region 22 with (fail)
                  have hlf : rleft r2 e2' = r2.length := by unfold rleft; split; (rw [hs2.1 (by assumption)]; rfl); rfl
                  have hps : (⟨r2.toArray⟩ : ByteArray).size = r2.length := by simp [ByteArray.size]
                  have kl := fun (w' : World) (S : Nat → Prop) (h : Sep w' [ReaderAt b r2 e2'] S) => read_left h
                  rw [hlf] at kl
                  refine wp_calm (fun w' => St (fun _ => False) w w' [ReaderAt b r2 e2', TapeAt g r2 e2', Blk ob #[.int .i64 kd, .int .i64 n, .slice ad B.length bcap] 57]) (by kernel_rfl) (by kernel_rfl) (H9.drew) ?_
                  iterate 28 first
                    | (apply calm_pass
                       · rfl
                       intro K hK
                       go_simp
                       refine hK _ ?_
                       clear hK K)
                    | (apply calm_step
                       · rfl
                       · intro w1 h1
                         have c0 := h1.cell 1 0 rfl rfl
                         have c1 := h1.cell 1 1 rfl rfl
                         go_simp
                         first
                           | rfl
                           | exact ⟨rfl, h1⟩
                           | (go_at_call 40; exact St.callSame' (read_err (h1.pick [0]).sep) h1)
                           | (go_at_call 41; exact St.callSame' (read_end (h1.pick [0]).sep) h1)
                           | (go_at_call 42; exact St.callSame' (tape_end (h1.pick [1]).sep) h1)
                           | (go_at_call 43; exact St.callSame' (kl _ _ (h1.pick [0]).sep) h1)
                       intro K hK
                       go_simp
                       refine hK _ ?_
                       clear hK K)
                  refine calm_nil ?_
                  intro w10 H10
                  go_wp2
                  go_roundw
                  case rel => exact ⟨i + 1, r2, e2', by omega, by go_num, hs2, H10.take (l1 := [_, _])⟩
                  case measure => simp [intOf]; omega
            · obtain ⟨X, hX⟩ : ∃ X, rfix r e n = X := ⟨_, rfl⟩
              have hs2 := hs.trans (rfix_sunk n hs.1)
              rw [hX] at hs2
              have kA := fun (w' : World) (S : Nat → Prop) (h : Sep w' [ReaderAt b r e] S) => read_fixed n (by have := hs.2; omega) h
              have kB := fun (w' : World) (S : Nat → Prop) (h : Sep w' [TapeAt g r e] S) => tape_fixed n (by have := hs.2; omega) h
              rw [hX] at kA kB
              clear hX
              obtain ⟨tx, r2, e2'⟩ := X
              simp only at kA kB hs2
              have e0 : ((kk : Int) == 0) = false := by simp; omega
              have e1 : ((kk : Int) == 1) = false := by simp; omega
              have e2 : ((kk : Int) == 2) = false := by simp; omega
              have e3 : ((kk : Int) == 3) = true := by simp; omega
              clear hk hk5
              go_upto_region 21 with (fail)
              refine wp_script [(0, false), (1, false), (2, false), (5, false), (6, false), (7, false), (3, true), (4, false), (8, true), (9, false), (10, false)] (Fam fun w' => St (fun _ => False) w w' [Blk ob #[.int .i64 kd, .int .i64 n, .slice ad B.length bcap] 57]) (fun w' => St (fun _ => False) w w' [ReaderAt b r e, TapeAt g r e, Blk ob #[.int .i64 kd, .int .i64 n, .slice ad B.length bcap] 57]) (by kernel_rfl) (by rfl) (by kernel_rfl) (by kernel_rfl) HA.drew (Fam.st (fun _ h => h.pick [2])) ?_
              iterate 6 first
                | (apply script_pass
                   · rfl
                   · rfl
                   intro K hK
                   go_simp
                   refine hK _ ?_
                   clear hK K)
                | (apply script_step
                   · rfl
                   · rfl
                   · intro I hI w1 h1'
                     have h1 := hI.2 _ h1'
                     have c1 := h1.cell 0 1 rfl rfl
                     go_simp
                     first
                       | rfl
                       | exact ⟨rfl, h1'⟩
                   intro K hK
                   go_simp
                   refine hK _ ?_
                   clear hK K)
              obtain ⟨V1, hV1⟩ := hide_rel (fun v I' => I' = fun w' => St (fun _ => False) w w' [Row 5 1 v tx.length (bvs tx), ReaderAt b r2 e2', TapeAt g r e, Blk ob #[.int .i64 kd, .int .i64 n, .slice ad B.length bcap] 57])
              refine script_big V1 rfl rfl ?_ ?_
              · intro w1 h1
                go_simp
                refine (St.callEx (fun S' h => kA _ S' h) h1).mono ?_
                rintro e w2 ⟨v', rfl, H2⟩
                exact ⟨_, rfl, _, (hV1.out _ _).2 rfl, H2⟩
              · intro v I' hvI
                obtain rfl := (hV1.out _ _).1 hvI
                clear hvI hV1
                obtain ⟨V2, hV2⟩ := hide_rel (fun u I' => u = textV tx ∧ I' = fun w' => St (fun _ => False) w w' [Row 5 1 v tx.length (bvs tx), ReaderAt b r2 e2', TapeAt g r2 e2', Blk ob #[.int .i64 kd, .int .i64 n, .slice ad B.length bcap] 57])
                refine ⟨Fam fun w' => St (fun _ => False) w w' [Row 5 1 v tx.length (bvs tx), Blk ob #[.int .i64 kd, .int .i64 n, .slice ad B.length bcap] 57], Fam.mono (fun _ h => h.pick [1]), Fam.st (fun _ h => h.pick [0, 3]), ?_⟩
                intro K hK
                go_simp
                refine hK _ ?_
                clear hK K
                iterate 1 first
                  | (apply script_pass
                     · rfl
                     · rfl
                     intro K hK
                     go_simp
                     refine hK _ ?_
                     clear hK K)
                  | (apply script_step
                     · rfl
                     · rfl
                     · intro I hI w1 h1'
                       have h1 := hI.2 _ h1'
                       have hcv := own_text' (h1.row 0 rfl)
                       go_simp
                       first
                         | rfl
                         | exact ⟨rfl, h1'⟩
                     intro K hK
                     go_simp
                     refine hK _ ?_
                     clear hK K)
                refine script_big V2 rfl rfl ?_ ?_
                · intro w1 h1
                  go_simp
                  refine (St.callOn (fun S' h => kB _ S' h) (h1.pick [2, 0, 1, 3])).mono ?_
                  rintro e w2 ⟨rfl, H2⟩
                  exact ⟨_, rfl, _, (hV2.out _ _).2 ⟨rfl, rfl⟩, H2.pick [1, 2, 0, 3]⟩
                · intro v' I' hvI
                  obtain ⟨rfl, rfl⟩ := (hV2.out _ _).1 hvI
                  clear hvI hV2
                  refine ⟨_, fun _ h => h, Fam.st (fun _ h => h.pick [0, 3]), ?_⟩
                  intro K hK
                  unfold textV
                  go_simp
                  refine hK _ ?_
                  clear hK K
                  iterate 2 first
                    | (apply script_pass
                       · rfl
                       · rfl
                       intro K hK
                       go_simp
                       refine hK _ ?_
                       clear hK K)
                    | (apply script_step
                       · rfl
                       · rfl
                       · intro I hI w1 h1'
                         have h1 := hI.2 _ h1'
                         go_simp
                         first
                           | rfl
                           | exact ⟨rfl, h1'⟩
                       intro K hK
                       go_simp
                       refine hK _ ?_
                       clear hK K)
                  refine script_nil ?_
                  intro w9 H9
                  have H9 : St (fun _ => False) w w9 [ReaderAt b r2 e2', TapeAt g r2 e2', Blk ob #[.int .i64 kd, .int .i64 n, .slice ad B.length bcap] 57] := H9.pick [1, 2, 3]
                  clear HA kA kB
                  go_upto_region 22 with (fail)
                  have hlf : rleft r2 e2' = r2.length := by unfold rleft; split; (rw [hs2.1 (by assumption)]; rfl); rfl
                  have hps : (⟨r2.toArray⟩ : ByteArray).size = r2.length := by simp [ByteArray.size]
                  have kl := fun (w' : World) (S : Nat → Prop) (h : Sep w' [ReaderAt b r2 e2'] S) => read_left h
                  rw [hlf] at kl
                  refine wp_calm (fun w' => St (fun _ => False) w w' [ReaderAt b r2 e2', TapeAt g r2 e2', Blk ob #[.int .i64 kd, .int .i64 n, .slice ad B.length bcap] 57]) (by kernel_rfl) (by kernel_rfl) (H9.drew) ?_
                  iterate 28 first
                    | (apply calm_pass
                       · rfl
                       intro K hK
                       go_simp
                       refine hK _ ?_
                       clear hK K)
                    | (apply calm_step
                       · rfl
                       · intro w1 h1
                         have c0 := h1.cell 1 0 rfl rfl
                         have c1 := h1.cell 1 1 rfl rfl
                         go_simp
                         first
                           | rfl
                           | exact ⟨rfl, h1⟩
                           | (go_at_call 40; exact St.callSame' (read_err (h1.pick [0]).sep) h1)
                           | (go_at_call 41; exact St.callSame' (read_end (h1.pick [0]).sep) h1)
                           | (go_at_call 42; exact St.callSame' (tape_end (h1.pick [1]).sep) h1)
                           | (go_at_call 43; exact St.callSame' (kl _ _ (h1.pick [0]).sep) h1)
                       intro K hK
                       go_simp
                       refine hK _ ?_
                       clear hK K)
                  refine calm_nil ?_
                  intro w10 H10
                  go_wp2
                  go_roundw
                  case rel => exact ⟨i + 1, r2, e2', by omega, by go_num, hs2, H10.take (l1 := [_, _])⟩
                  case measure => simp [intOf]; omega
            · have hs2 := hs.trans (rfail_sunk n hs.1)
              obtain ⟨r2, hr2⟩ : ∃ r2, (if e = 0 ∧ n ≠ 0 then [] else r) = r2 := ⟨_, rfl⟩
              obtain ⟨e2', he2⟩ : ∃ e2, (if e = 0 ∧ n ≠ 0 then n else e) = e2 := ⟨_, rfl⟩
              rw [hr2, he2] at hs2
              have kA := fun (w' : World) (S : Nat → Prop) (h : Sep w' [ReaderAt b r e] S) => read_fail (x := n) h
              have kB := fun (w' : World) (S : Nat → Prop) (h : Sep w' [TapeAt g r e] S) => tape_fail (x := n) h
              rw [hr2, he2] at kA kB
              clear hr2 he2
              have e0 : ((kk : Int) == 0) = false := by simp; omega
              have e1 : ((kk : Int) == 1) = false := by simp; omega
              have e2 : ((kk : Int) == 2) = false := by simp; omega
              have e3 : ((kk : Int) == 3) = false := by simp; omega
              clear hk hk5
              have c1 := HA.cell 2 1 rfl rfl
              go_wp2_with fail
              refine (St.callOn (fun S' h => kA _ S' h) HA).mono ?_
              rintro e' w8 ⟨rfl, H8⟩
              clear c1
              have c1 := H8.cell 2 1 rfl rfl
              go_wp2_with fail
              refine (St.callOn (fun S' h => kB _ S' h) (H8.pick [1, 0, 2])).mono ?_
              rintro e' w9 ⟨rfl, H9⟩
              have H9 : St (fun _ => False) w w9 [ReaderAt b r2 e2', TapeAt g r2 e2', Blk ob #[.int .i64 kd, .int .i64 n, .slice ad B.length bcap] 57] := H9.pick [1, 0, 2]
              clear HA H8 kA kB c1
              go_upto_region 22 with (fail)
              have hlf : rleft r2 e2' = r2.length := by unfold rleft; split; (rw [hs2.1 (by assumption)]; rfl); rfl
              have hps : (⟨r2.toArray⟩ : ByteArray).size = r2.length := by simp [ByteArray.size]
              have kl := fun (w' : World) (S : Nat → Prop) (h : Sep w' [ReaderAt b r2 e2'] S) => read_left h
              rw [hlf] at kl
              refine wp_calm (fun w' => St (fun _ => False) w w' [ReaderAt b r2 e2', TapeAt g r2 e2', Blk ob #[.int .i64 kd, .int .i64 n, .slice ad B.length bcap] 57]) (by kernel_rfl) (by kernel_rfl) (H9.drew) ?_
              iterate 28 first
                | (apply calm_pass
                   · rfl
                   intro K hK
                   go_simp
                   refine hK _ ?_
                   clear hK K)
                | (apply calm_step
                   · rfl
                   · intro w1 h1
                     have c0 := h1.cell 1 0 rfl rfl
                     have c1 := h1.cell 1 1 rfl rfl
                     go_simp
                     first
                       | rfl
                       | exact ⟨rfl, h1⟩
                       | (go_at_call 40; exact St.callSame' (read_err (h1.pick [0]).sep) h1)
                       | (go_at_call 41; exact St.callSame' (read_end (h1.pick [0]).sep) h1)
                       | (go_at_call 42; exact St.callSame' (tape_end (h1.pick [1]).sep) h1)
                       | (go_at_call 43; exact St.callSame' (kl _ _ (h1.pick [0]).sep) h1)
                   intro K hK
                   go_simp
                   refine hK _ ?_
                   clear hK K)
              refine calm_nil ?_
              intro w10 H10
              go_wp2
              go_roundw
              case rel => exact ⟨i + 1, r2, e2', by omega, by go_num, hs2, H10.take (l1 := [_, _])⟩
              case measure => simp [intOf]; omega
          · obtain rfl : i = l.length := by omega
            go_wp2_with (first
              | (go_at_call 38; go_must (refine (St.callSame' (read_fail_nil 2 _) HL).mono ?_; rintro e w' ⟨rfl, HL⟩))
              | (go_at_call 40; go_must (refine (St.callSame' (read_err_nil _) HL).mono ?_; rintro e w' ⟨rfl, HL⟩))
              | (go_at_call 41; go_must (refine (St.callSame' (read_end_nil _) HL).mono ?_; rintro e w' ⟨rfl, HL⟩))
              | (go_at_call 30; go_must (refine (St.callSame' (read_number_nil 9 _) HL).mono ?_; rintro e w' ⟨rfl, HL⟩))
              | (go_at_call 32; go_must (refine (St.callSame' (read_signed_nil _) HL).mono ?_; rintro e w' ⟨rfl, HL⟩))
              | (go_at_call 34; go_must (refine (St.callSame' (read_text_nil 9 _) HL).mono ?_; rintro e w' ⟨rfl, HL⟩))
              | (go_at_call 36; go_must (refine (St.callSame' (read_fixed_nil 0 _) HL).mono ?_; rintro e w' ⟨rfl, HL⟩))
              | (go_at_call 43; go_must (refine (St.callSame' (read_left_nil _) HL).mono ?_; rintro e w' ⟨rfl, HL⟩)))
            go_ret
            exact ⟨rfl, HL.below (Nat.le_refl _) (fun _ h => h.elim)⟩

theorem walk (v0 v1 : Value) (w : World) (h0 : R Try.prog w 29 v0.cells.toList) (s0 : ∃ a len cap, v0 = .slice a len cap) (h1 : R Try.prog w 52 v1.cells.toList) (s1 : ∃ a len cap, v1 = .slice a len cap) :
    Calls Try.prog 6 #[v0, v1] w fun e w' => e = .returned (.bool true) ∧ Below w.heap.size w w' := by
  obtain ⟨a, len, cap, rfl⟩ := s0
  obtain ⟨a', len', cap', rfl⟩ := s1
  obtain ⟨v, bs, e, hx, hl⟩ := R.bytes Try.underlying29 Try.underlying5 (by kernel_rfl) h0
  have e2 : Value.slice a len cap = v := by simpa [Value.cells] using e
  subst e2
  obtain ⟨v', l, e', hx'⟩ := pops_read h1
  have e3 : Value.slice a' len' cap' = v' := by simpa [Value.cells] using e'
  subst e3
  exact reads_walk w hx hl hx'

set_option maxRecDepth 100000 in
theorem lifted (os : Os) (started : os.Started) (H : Type) (enc : TypeId × Value → H) :
    ReturnsInHanded {} Try.checked os 6 .any (Rows.penReadsSpec.pre6 enc Try.prog Try.f6 Rows.penReadsRow.domain false) (Rows.penReadsSpec.post enc Try.prog Try.f6 false true false false) := by
  refine returnsInHanded_of_change (C := Try.checked) own started (by kernel_rfl) Try.func6
    (ChangeSpec.witness6 (enc := enc) (C := Try.checked) false ⟨#[], #[.slice none 0 0, .slice none 0 0], []⟩ 8 (by kernel_rfl) (by kernel_rfl) (by kernel_rfl) (by kernel_rfl)) ?_
  intro W base args ds gs before hval0 hW hcnd _
  have hval : ∀ (j : Nat) t v, Try.f6.params[j]? = some t → args[j]? = some v → Value.okWide Try.prog W .any base t v := hval0
  have hW' := hW
  obtain ⟨p, q, hA0, hV, rfl, hfz, hnd⟩ := hW
  have hA : DataW.TrodAll enc Try.prog W 0 (fun _ => true) true Try.f6.params.toList args.toList ds p := hA0
  rw [Try.params6] at hA hval
  obtain ⟨v0, vs0, d0, ds0, p0, q0, hargs, rfl, rfl, h0, r0⟩ := trodAll_cons hA
  obtain ⟨v1, vs1, d1, ds1, p1, q1, rfl, rfl, rfl, h1, r1⟩ := trodAll_cons r0
  obtain ⟨rfl, rfl, rfl⟩ := trodAll_nil r1
  obtain rfl : args = #[v0, v1] := by cases args; simp_all
  obtain ⟨rfl, rfl⟩ := trodVars_none hV
  have lt0 : ∀ x ∈ p0, x.block < W.heap.size := by obtain ⟨m, hm⟩ := h0; exact DataW.trod_lt m _ _ _ hm
  have w0 : R Try.prog W 29 v0.cells.toList := by
    obtain ⟨m, hm⟩ := h0
    exact ⟨H, enc, _, _, m, _, hm⟩
  have s0 : ∃ a len cap, v0 = .slice a len cap := okWide_slice Try.underlying29 (hval 0 29 v0 rfl rfl)
  have lt1 : ∀ x ∈ p1, x.block < W.heap.size := by obtain ⟨m, hm⟩ := h1; exact DataW.trod_lt m _ _ _ hm
  have w1 : R Try.prog W 52 v1.cells.toList := by
    obtain ⟨m, hm⟩ := h1
    exact ⟨H, enc, _, _, m, _, hm⟩
  have s1 : ∃ a len cap, v1 = .slice a len cap := okWide_slice Try.underlying52 (hval 1 52 v1 rfl rfl)
  clear hA0 hval0
  refine (walk v0 v1 W w0 s0 w1 s1).mono fun e W' ⟨he, bel⟩ => ?_
  subst he
  exact ⟨_, rfl, _, _, _, [], _, [], hW', trodAll_mk1 (shut_bool Try.underlying4 _), (trodAll_cons_mk (Below.trod laidOut (by kernel_rfl) (of_decide_eq_true (by kernel_rfl)) h0 bel lt0) (trodAll_cons_mk (Below.trod laidOut (by kernel_rfl) (of_decide_eq_true (by kernel_rfl)) h1 bel lt1) trodAll_mk0)), rfl, bel.frame _, fun h => by cases h⟩

theorem over : Rows.penReadsRow.holds Try.pinned (OpenSpec.ofChange Rows.penReadsSpec) :=
  OpenClaim.holds_of_wide 6 Try.f6 rfl rfl rfl rfl rfl rfl rfl ⟨rfl, rfl, rfl, rfl, rfl⟩ rfl rfl rfl rfl rfl (by kernel_rfl) Try.func6 (by kernel_rfl)
    (of_decide_eq_true (by kernel_rfl)) (by unfold Func.isWrapper; first | (rw [if_pos (by decide +kernel)]; kernel_rfl) | (rw [if_neg (by decide +kernel)]; exact ⟨rfl, rfl⟩))
    (fun os started H enc _ => lifted os started H enc)

/-- THE STATEMENT -/
theorem proved : Rows.PenReadsSaid := over
#print axioms proved
end Go.Proofs.Ytbikjhmdpgoofab.penReads
