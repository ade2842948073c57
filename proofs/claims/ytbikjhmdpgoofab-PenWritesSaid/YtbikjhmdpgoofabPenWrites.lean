/- PenWrites returns true at every input, and its arguments read as they did. No condition. -/
import Derived.Test.YtbikjhmdpgoofabPenIn
import Derived.Test.YtbikjhmdpgoofabRefPenA
import Derived.Test.YtbikjhmdpgoofabPenF
import Derived.Test.YtbikjhmdpgoofabScript
import Derived.WalkKit
import Derived.ProofKit
import Derived.OpenShut
import Derived.ShutString
import Derived.ChangeOld
import Derived.Below
namespace Go.Proofs.Ytbikjhmdpgoofab.penWrites
open Go.ChangeShapes Go.WideShapes Go.ChangeAt Go.RowKit
open Go.ChangeMaps (open_string shut_string)
set_option linter.unusedVariables false

theorem own : ownKnob Try.prog.godebug = none := by kernel_rfl
theorem laidOut : laidOutB Try.prog = true := by kernel_rfl

set_option maxHeartbeats 4000000 in
set_option maxRecDepth 100000 in
theorem writes_walk {v : Value} {l : List POp} (w : World) (hv : POpsRO w v l) :
    Calls Try.prog 5 #[v] w fun e w' => e = .returned (.bool true) ∧ Below w.heap.size w w' := by
  obtain ⟨ao, cap, rfl, hll, hok, hcell⟩ := hv
  go_enter Try.func5, Try.ntmps5
  go_wp2_with fail
  refine (St.callPast (first03 _) (St.nil (fun _ => False) w)).mono ?_
  rintro e w1 ⟨rfl, H1⟩
  have H2 : St (fun _ => False) w (w1.alloc (.cells #[.slice none 0 0] 55)) [PenAt w1.heap.size []] := PenAt.mk (L := []) ((H1.row_nil 5 1).alloc _ _)
  clear H1
  obtain ⟨p, hp⟩ : ∃ p, w1.heap.size = p := ⟨_, rfl⟩
  go_upto_block 1 with (fail)
  rw [hp] at H2
  clear hp
  go_loopw [5, 14] (fun s j wr => ∃ (i : Nat) (L : List UInt8), i ≤ l.length ∧ j = .int .i64 i ∧ s = textV L ∧ i ≤ 60 ∧ L.length ≤ i * 5100 ∧ St (fun _ => False) w wr [PenAt p L]) (fun _ j _ => l.length - (intOf j).toNat)
  case atStart => exact ⟨0, [], by omega, rfl, rfl, by omega, by simp, H2⟩
  case round =>
    clear H2
    obtain ⟨i, L, hi, rfl, rfl, hi60, hL, HL⟩ := hrel
    by_cases hlt : i < l.length
    · obtain ⟨b, o, rfl, hb, hc⟩ := hcell (by rintro rfl; simp at hlt)
      obtain ⟨x, hx⟩ : ∃ x, l[i]? = some x := ⟨_, List.getElem?_eq_getElem hlt⟩
      obtain ⟨hxB, hxl, hxn, hxk⟩ := hok x (List.mem_of_getElem? hx)
      obtain ⟨q0, q1, q2⟩ := pop_cells (hc i x hx) (HL.kept.block b hb id)
      obtain ⟨kd, n, Bv, B⟩ := x
      simp only at hxB hxl hxn hxk q0 q1 q2
      obtain ⟨ad, bcap, rfl, _, _⟩ := id hxB
      clear hx hc hcell
      have HA : St (fun _ => False) w _ [_, _] := (HL.allocAt rfl #[.int .i64 kd, .int .i64 n, .slice ad B.length bcap] 57).pick [1, 0]
      by_cases hi0 : 60 ≤ i
      · have z0 : decide ((60 : Int) ≤ (i : Int)) = true := by simp; omega
        have z1 : decide (60 ≤ i) = true := by simp; omega
        go_wp2
        go_ret
        exact ⟨rfl, HA.below (Nat.le_refl _) (fun _ h => h.elim)⟩
      · have z0 : decide ((60 : Int) ≤ (i : Int)) = false := by simp; omega
        have z1 : decide (60 ≤ i) = false := by simp; omega
        by_cases hB : (5000 : Int) < B.length
        · have z2 : decide ((5000 : Int) < (B.length : Int)) = true := by simpa using hB
          go_wp2
          go_ret
          exact ⟨rfl, HA.below (Nat.le_refl _) (fun _ h => h.elim)⟩
        · have z2 : decide ((5000 : Int) < (B.length : Int)) = false := by simpa using hB
          obtain ⟨kk, hkk⟩ : ∃ kk : Nat, (kd % 4) = (kk : Int) := ⟨(kd % 4).toNat, by omega⟩
          have hk4 : kk < 4 := by omega
          have hw1 : (IntKind.u64.wrap kd) % 4 = (kk : Int) := by simp [IntKind.wrap, IntKind.bits, IntKind.signed]; omega
          have hw2 : (IntKind.u64.wrap kd).tmod 4 = (kk : Int) := by rw [Int.tmod_eq_emod_of_nonneg (by simp [IntKind.wrap, IntKind.bits, IntKind.signed]; omega)]; exact hw1
          go_upto_region 15 with (fail)
          obtain ⟨wa, hwa⟩ : ∃ wa, wr.alloc (.cells #[.int .i64 kd, .int .i64 n, .slice ad B.length bcap] 57) = wa := ⟨_, rfl⟩
          obtain ⟨ob, hob⟩ : ∃ ob, wr.heap.size = ob := ⟨_, rfl⟩
          rw [hwa, hob] at HA
          rw [hwa]
          simp only [hob]
          have hLs : (⟨L.toArray⟩ : ByteArray).size = L.length := by simp [ByteArray.size]
          have hBs : (⟨B.toArray⟩ : ByteArray).size = B.length := by simp [ByteArray.size]
          have hL6 : L.length ≤ 400000 := by omega
          clear hwa hob q0 q1 q2 hkk hw1 hw2 HL z0 z1 z2
          rcases (show kk = 0 ∨ kk = 1 ∨ kk = 2 ∨ kk = 3 by omega) with hk | hk | hk | hk
          · have hvl := vint_len n.toNat
            have hvs : (⟨(vint n.toNat).toArray⟩ : ByteArray).size = (vint n.toNat).length := by simp [ByteArray.size]
            have hta := text_app L (vint n.toNat)
            have e0 : ((kk : Int) == 0) = true := by simp; omega
            have e1 : ((kk : Int) == 1) = false := by simp; omega
            have e2 : ((kk : Int) == 2) = false := by simp; omega
            clear hk hk4
            go_upto_region 16 with (fail)
            refine wp_script [(0, false), (1, false), (2, false), (4, false), (5, false), (6, false), (3, true), (7, false), (8, false), (9, false), (10, false), (11, false), (12, false), (13, false)] (Fam fun w' => St (fun _ => False) w w' [Blk ob #[.int .i64 kd, .int .i64 n, .slice ad B.length bcap] 57]) (fun w' => St (fun _ => False) w w' [PenAt p L, Blk ob #[.int .i64 kd, .int .i64 n, .slice ad B.length bcap] 57]) (by kernel_rfl) (by rfl) (by kernel_rfl) (by kernel_rfl) HA.drew (Fam.st (fun _ h => h.pick [1])) ?_
            iterate 6 first
              | (apply script_pass
                 · rfl
                 · rfl
                 intro K hK
                 go_simp
                 refine hK _ ?_
                 clear hK K)
              | (apply script_step
                 · rfl
                 · rfl
                 · intro I hI w1 h1'
                   have h1 := hI.2 _ h1'
                   have c0 := h1.cell 0 0 rfl rfl
                   have c1 := h1.cell 0 1 rfl rfl
                   go_simp
                   first
                     | rfl
                     | exact ⟨rfl, h1'⟩
                     | (trace_state; fail)
                 intro K hK
                 go_simp
                 refine hK _ ?_
                 clear hK K)
            obtain ⟨V1, hV1⟩ := hide_rel (fun v I' => v = .bool (decide (0 ≤ n)) ∧ I' = fun w' => St (fun _ => False) w w' [PenAt p (L ++ if 0 ≤ n then vint n.toNat else []), Blk ob #[.int .i64 kd, .int .i64 n, .slice ad B.length bcap] 57])
            refine script_big V1 rfl rfl ?_ ?_
            · intro w1 h1
              go_simp
              refine (St.callOn (fun S' h => pen_number n hxn.2 (by omega) h) h1).mono ?_
              rintro e w2 ⟨rfl, H2⟩
              exact ⟨_, rfl, _, (hV1.out _ _).2 ⟨rfl, rfl⟩, H2⟩
            · intro v I' hvI
              obtain ⟨rfl, rfl⟩ := (hV1.out _ _).1 hvI
              clear hvI hV1
              refine ⟨_, fun _ h => h, Fam.st (fun _ h => h.pick [1]), ?_⟩
              intro K hK
              go_simp
              refine hK _ ?_
              clear hK K
              iterate 7 first
                | (apply script_pass
                   · rfl
                   · rfl
                   intro K hK
                   go_simp
                   refine hK _ ?_
                   clear hK K)
                | (apply script_step
                   · rfl
                   · rfl
                   · intro I hI w1 h1'
                     have h1 := hI.2 _ h1'
                     have c0 := h1.cell 0 0 rfl rfl
                     have c1 := h1.cell 0 1 rfl rfl
                     go_simp
                     first
                       | rfl
                       | exact ⟨rfl, h1'⟩
                       | (go_at_call 21; with_reducible exact Fam.call0 h1' (pen_number_nil n w1))
                       | (trace_state; fail)
                   intro K hK
                   go_simp
                   refine hK _ ?_
                   clear hK K)
              refine script_nil ?_
              intro w7 H7
              have c1 := H7.cell 1 1 rfl rfl
              clear HA
              by_cases h0 : 0 ≤ n
              · have z0 : decide (0 ≤ n) = true := by simpa using h0
                rw [if_pos h0] at H7
                have hcast : n = (n.toNat : Int) := by omega
                have hch := Lib.hid hcast
                clear h0 hcast
                go_wp2_with fail
                have kn := refpen_number n.toNat (by omega) w7
                rw [← hch.out] at kn
                refine (St.callPast kn H7).mono ?_
                rintro e w8 ⟨rfl, H8⟩
                unfold textV
                go_wp2
                go_roundw
                case rel => exact ⟨i + 1, L ++ vint n.toNat, by omega, by go_num, rfl, by omega, by first | omega | (simp; omega), H8.take (l1 := [_])⟩
                case measure => simp [intOf]; omega
              · have z0 : decide (0 ≤ n) = false := by simpa using h0
                rw [if_neg h0, List.append_nil] at H7
                clear h0
                go_wp2
                go_roundw
                case rel => exact ⟨i + 1, L, by omega, by go_num, rfl, by omega, by first | omega | (simp; omega), H7.take (l1 := [_])⟩
                case measure => simp [intOf]; omega
          · have hvl := vint_len (zig n)
            have hvs : (⟨(vint (zig n)).toArray⟩ : ByteArray).size = (vint (zig n)).length := by simp [ByteArray.size]
            have hta := text_app L (vint (zig n))
            have e0 : ((kk : Int) == 0) = false := by simp; omega
            have e1 : ((kk : Int) == 1) = true := by simp; omega
            have e2 : ((kk : Int) == 2) = false := by simp; omega
            clear hk hk4
            have c1 := HA.cell 1 1 rfl rfl
            go_wp2_with fail
            refine (St.callOn (fun S' h => pen_signed n hxn (by omega) h) HA).mono ?_
            rintro e w7 ⟨rfl, H7⟩
            have H7 : St (fun _ => False) w w7 [PenAt p (L ++ vint (zig n)), Blk ob #[.int .i64 kd, .int .i64 n, .slice ad B.length bcap] 57] := H7
            clear HA c1
            have c1 := H7.cell 1 1 rfl rfl
            go_wp2_with fail
            refine (St.callSame' (pen_signed_nil n w7) H7).mono ?_
            rintro e w8 ⟨rfl, H8⟩
            clear H7 c1
            have c1 := H8.cell 1 1 rfl rfl
            go_wp2_with fail
            refine (St.callPast (refpen_signed n hxn w8) H8).mono ?_
            rintro e w9 ⟨rfl, H9⟩
            unfold textV
            go_wp2
            go_roundw
            case rel => exact ⟨i + 1, L ++ vint (zig n), by omega, by go_num, rfl, by omega, by first | omega | (simp; omega), H9.take (l1 := [_])⟩
            case measure => simp [intOf]; omega
          · have hvl := vint_len B.length
            have hvs : (⟨(vint B.length ++ B).toArray⟩ : ByteArray).size = (vint B.length ++ B).length := by simp [ByteArray.size]
            have hvs2 : (vint B.length ++ B).length ≤ 5011 := by simp; omega
            have hta := text_app L (vint B.length ++ B)
            have e0 : ((kk : Int) == 0) = false := by simp; omega
            have e1 : ((kk : Int) == 1) = false := by simp; omega
            have e2 : ((kk : Int) == 2) = true := by simp; omega
            clear hk hk4
            obtain ⟨bb, hbb⟩ : ∃ bb, decide (B.length ≤ 4096) = bb := ⟨_, rfl⟩
            have hbb2 : decide ((B.length : Int) ≤ 4096) = bb := by rw [← hbb]; simp; omega
            go_upto_region 25 with (fail)
            refine wp_script [(0, false), (1, false), (2, false), (4, false), (5, false), (6, false), (7, false), (3, true), (8, false), (9, false), (10, false), (11, false), (12, false), (13, false), (14, false)] (Fam fun w' => St (fun _ => False) w w' [Blk ob #[.int .i64 kd, .int .i64 n, .slice ad B.length bcap] 57]) (fun w' => St (fun _ => False) w w' [PenAt p L, Blk ob #[.int .i64 kd, .int .i64 n, .slice ad B.length bcap] 57]) (by kernel_rfl) (by rfl) (by kernel_rfl) (by kernel_rfl) HA.drew (Fam.st (fun _ h => h.pick [1])) ?_
            iterate 7 first
              | (apply script_pass
                 · rfl
                 · rfl
                 intro K hK
                 go_simp
                 refine hK _ ?_
                 clear hK K)
              | (apply script_step
                 · rfl
                 · rfl
                 · intro I hI w1 h1'
                   have h1 := hI.2 _ h1'
                   have c0 := h1.cell 0 0 rfl rfl
                   have c2 := h1.cell 0 2 rfl rfl
                   go_simp
                   first
                     | rfl
                     | exact ⟨rfl, h1'⟩
                     | (trace_state; fail)
                 intro K hK
                 go_simp
                 refine hK _ ?_
                 clear hK K)
            obtain ⟨V1, hV1⟩ := hide_rel (fun v I' => v = .bool bb ∧ I' = fun w' => St (fun _ => False) w w' [PenAt p (L ++ if B.length ≤ 4096 then vint B.length ++ B else []), Blk ob #[.int .i64 kd, .int .i64 n, .slice ad B.length bcap] 57])
            refine script_big V1 rfl rfl ?_ ?_
            · intro w1 h1
              go_simp
              obtain ⟨S1, K1, R1, G1⟩ := St.lendIn (l1 := [_]) h1 hxB
              have kt := pen_text (by omega) hxl R1 K1
              rw [hbb] at kt
              refine kt.mono ?_
              rintro e w2 ⟨rfl, H2⟩
              exact ⟨_, rfl, _, (hV1.out _ _).2 ⟨rfl, rfl⟩, G1 _ _ H2⟩
            · intro v I' hvI
              obtain ⟨rfl, rfl⟩ := (hV1.out _ _).1 hvI
              clear hvI hV1
              refine ⟨_, fun _ h => h, Fam.st (fun _ h => h.pick [1]), ?_⟩
              intro K hK
              go_simp
              refine hK _ ?_
              clear hK K
              iterate 7 first
                | (apply script_pass
                   · rfl
                   · rfl
                   intro K hK
                   go_simp
                   refine hK _ ?_
                   clear hK K)
                | (apply script_step
                   · rfl
                   · rfl
                   · intro I hI w1 h1'
                     have h1 := hI.2 _ h1'
                     have c0 := h1.cell 0 0 rfl rfl
                     have c2 := h1.cell 0 2 rfl rfl
                     go_simp
                     first
                       | rfl
                       | exact ⟨rfl, h1'⟩
                       | (go_at_call 25; with_reducible exact Fam.call0 h1' (pen_text_nil ad B.length bcap w1))
                       | (trace_state; fail)
                   intro K hK
                   go_simp
                   refine hK _ ?_
                   clear hK K)
              refine script_nil ?_
              intro w7 H7
              have c2 := H7.cell 1 2 rfl rfl
              clear HA
              by_cases h0 : B.length ≤ 4096
              · obtain rfl : bb = true := by rw [← hbb]; simpa using h0
                rw [if_pos h0] at H7
                have hcv := conv_ro' hxB (fun b hb hn => H7.kept.block b hb hn)
                clear h0
                go_wp2_with fail
                refine (St.callPast (refpen_text B (by omega) w7) H7).mono ?_
                rintro e w8 ⟨rfl, H8⟩
                unfold textV
                go_wp2
                go_roundw
                case rel => exact ⟨i + 1, L ++ (vint B.length ++ B), by omega, by go_num, rfl, by omega, by first | omega | (simp; omega), H8.take (l1 := [_])⟩
                case measure => simp [intOf]; omega
              · obtain rfl : bb = false := by rw [← hbb]; simpa using h0
                rw [if_neg h0, List.append_nil] at H7
                clear h0
                go_wp2
                go_roundw
                case rel => exact ⟨i + 1, L, by omega, by go_num, rfl, by omega, by first | omega | (simp; omega), H7.take (l1 := [_])⟩
                case measure => simp [intOf]; omega
          · have hta := text_app L B
            have e0 : ((kk : Int) == 0) = false := by simp; omega
            have e1 : ((kk : Int) == 1) = false := by simp; omega
            have e2 : ((kk : Int) == 2) = false := by simp; omega
            clear hk hk4
            have c2 := HA.cell 1 2 rfl rfl
            go_wp2_with fail
            obtain ⟨S1, K1, R1, G1⟩ := St.lendIn (l1 := [_]) HA hxB
            refine (pen_fixed (by omega) R1 K1).mono ?_
            rintro e w7 ⟨rfl, H2⟩
            have H7 : St (fun _ => False) w w7 [PenAt p (L ++ B), Blk ob #[.int .i64 kd, .int .i64 n, .slice ad B.length bcap] 57] := G1 _ _ H2
            clear HA c2 H2 K1 R1 G1
            have c2 := H7.cell 1 2 rfl rfl
            go_wp2_with fail
            refine (St.callSame' (pen_fixed_nil ad B.length bcap w7) H7).mono ?_
            rintro e w8 ⟨rfl, H8⟩
            clear H7 c2
            have c2 := H8.cell 1 2 rfl rfl
            have hcv := conv_ro' hxB (fun b hb hn => H8.kept.block b hb hn)
            unfold textV
            go_wp2
            go_roundw
            case rel => exact ⟨i + 1, L ++ B, by omega, by go_num, rfl, by omega, by first | omega | (simp; omega), H8.take (l1 := [_])⟩
            case measure => simp [intOf]; omega
    · obtain rfl : i = l.length := by omega
      go_wp2_with fail
      refine (St.callEx (fun S' h => pen_bytes (by omega) h) HL).mono ?_
      rintro e w7 ⟨v', rfl, H7⟩
      have H7 : St (fun _ => False) w w7 [Row 5 1 v' L.length (bvs L), PenAt p L] := H7
      have hcv := own_text' (H7.row 0 rfl)
      unfold textV
      go_wp2_with (go_at_call 28; refine (St.callSame' (pen_bytes_nil w7) H7).mono ?_; rintro e w8 ⟨rfl, H8⟩)
      go_ret
      exact ⟨rfl, H8.below (Nat.le_refl _) (fun _ h => h.elim)⟩


theorem walk (v0 : Value) (w : World) (h0 : R Try.prog w 52 v0.cells.toList) (s0 : ∃ a len cap, v0 = .slice a len cap) :
    Calls Try.prog 5 #[v0] w fun e w' => e = .returned (.bool true) ∧ Below w.heap.size w w' := by
  obtain ⟨a, len, cap, rfl⟩ := s0
  obtain ⟨v, l, e, hx⟩ := pops_read h0
  have e2 : Value.slice a len cap = v := by simpa [Value.cells] using e
  subst e2
  exact writes_walk w hx

set_option maxRecDepth 100000 in
theorem lifted (os : Os) (started : os.Started) (H : Type) (enc : TypeId × Value → H) :
    ReturnsInHanded {} Try.checked os 5 .any (Rows.penWritesSpec.pre6 enc Try.prog Try.f5 Rows.penWritesRow.domain false) (Rows.penWritesSpec.post enc Try.prog Try.f5 false true false false) := by
  refine returnsInHanded_of_change (C := Try.checked) own started (by kernel_rfl) Try.func5
    (ChangeSpec.witness6 (enc := enc) (C := Try.checked) false ⟨#[], #[.slice none 0 0], []⟩ 8 (by kernel_rfl) (by kernel_rfl) (by kernel_rfl) (by kernel_rfl)) ?_
  intro W base args ds gs before hval0 hW hcnd _
  have hval : ∀ (j : Nat) t v, Try.f5.params[j]? = some t → args[j]? = some v → Value.okWide Try.prog W .any base t v := hval0
  have hW' := hW
  obtain ⟨p, q, hA0, hV, rfl, hfz, hnd⟩ := hW
  have hA : DataW.TrodAll enc Try.prog W 0 (fun _ => true) true Try.f5.params.toList args.toList ds p := hA0
  rw [Try.params5] at hA hval
  obtain ⟨v0, vs0, d0, ds0, p0, q0, hargs, rfl, rfl, h0, r0⟩ := trodAll_cons hA
  obtain ⟨rfl, rfl, rfl⟩ := trodAll_nil r0
  obtain rfl : args = #[v0] := by cases args; simp_all
  obtain ⟨rfl, rfl⟩ := trodVars_none hV
  have lt0 : ∀ x ∈ p0, x.block < W.heap.size := by obtain ⟨m, hm⟩ := h0; exact DataW.trod_lt m _ _ _ hm
  have w0 : R Try.prog W 52 v0.cells.toList := by
    obtain ⟨m, hm⟩ := h0
    exact ⟨H, enc, _, _, m, _, hm⟩
  have s0 : ∃ a len cap, v0 = .slice a len cap := okWide_slice Try.underlying52 (hval 0 52 v0 rfl rfl)
  clear hA0 hval0
  refine (walk v0 W w0 s0).mono fun e W' ⟨he, bel⟩ => ?_
  subst he
  exact ⟨_, rfl, _, _, _, [], _, [], hW', trodAll_mk1 (shut_bool Try.underlying4 _), (trodAll_cons_mk (Below.trod laidOut (by kernel_rfl) (of_decide_eq_true (by kernel_rfl)) h0 bel lt0) trodAll_mk0), rfl, bel.frame _, fun h => by cases h⟩

theorem over : Rows.penWritesRow.holds Try.pinned (OpenSpec.ofChange Rows.penWritesSpec) :=
  OpenClaim.holds_of_wide 5 Try.f5 rfl rfl rfl rfl rfl rfl rfl ⟨rfl, rfl, rfl, rfl, rfl⟩ rfl rfl rfl rfl rfl (by kernel_rfl) Try.func5 (by kernel_rfl)
    (of_decide_eq_true (by kernel_rfl)) (by unfold Func.isWrapper; first | (rw [if_pos (by decide +kernel)]; kernel_rfl) | (rw [if_neg (by decide +kernel)]; exact ⟨rfl, rfl⟩))
    (fun os started H enc _ => lifted os started H enc)

/-- THE STATEMENT -/
theorem proved : Rows.PenWritesSaid := over
#print axioms proved
end Go.Proofs.Ytbikjhmdpgoofab.penWrites
