/- The walk of the document's Text of a move (layer 24). Conditions: a move's bytes can be read; the library's variables hold what its text lays. -/
import Derived.Test.YtaafedpjifaghaaDoorRfH
set_option linter.unusedVariables false
set_option linter.unusedSimpArgs false
namespace Go.Proofs.YtaafedpjifaghaaDoor
open Go.RowKit

theorem name_at {k : Nat} (h : k < 8) : (texts nameTexts).toArray[k]? = some (.string ⟨(wordsM.getD k ([], [])).1.toArray⟩) := by
  have : ∀ k : Fin 8, nameTexts[k.val]? = some (wordsM.getD k.val ([], [])).1 := by decide
  have := this ⟨k, h⟩
  simp only at this
  unfold texts
  rw [List.getElem?_toArray, List.getElem?_map, this]
  rfl
theorem hexOf_take {bs : List UInt8} {i : Nat} {c : UInt8} (h : bs[i]? = some c) : hexOf (bs.take (i + 1)) = hexOf (bs.take i) ++ [digit16 (c.toNat / 16), digit16 (c.toNat % 16)] := by rw [take_snoc' h, hexOf_snoc]
theorem hexL_part {d : Nat} (h : d < 16) : (⟨#[48, 49, 50, 51, 52, 53, 54, 55, 56, 57, 97, 98, 99, 100, 101, 102]⟩ : ByteArray).extract d (d + 1) = ⟨#[digit16 d]⟩ := by
  have : ∀ d : Fin 16, (⟨#[48, 49, 50, 51, 52, 53, 54, 55, 56, 57, 97, 98, 99, 100, 101, 102]⟩ : ByteArray).extract d.val (d.val + 1) = ⟨#[digit16 d.val]⟩ := by decide
  exact this ⟨d, h⟩
set_option maxHeartbeats 8000000 in
set_option maxRecDepth 100000 in
theorem ref24_text (v : Mv) {x : Value} {w : World} (hV : Vars w) (hv : BytesRO (fun _ => False) w x v.b) (hbl : v.b.length ≤ 9223372036854775807)
    (hr : (-9223372036854775808 ≤ v.at' ∧ v.at' ≤ 9223372036854775807) ∧ (-9223372036854775808 ≤ v.to ∧ v.to ≤ 9223372036854775807) ∧ (-9223372036854775808 ≤ v.n ∧ v.n ≤ 9223372036854775807)) :
    Calls Tryd.prog 21 #[.agg (mvCells v x)] w fun e w' => e = .returned (.string ⟨(textM v).toArray⟩) ∧ Below w.heap.size w w' := by
  obtain ⟨kind, at', tt, n, bb⟩ := v
  obtain ⟨ad, cap, e, _⟩ := id hv
  simp only at e hbl hr hv
  subst e
  obtain ⟨mb, hmb⟩ : ∃ g, w.heap.size = g := ⟨_, rfl⟩
  have HA : St (fun _ => False) w (w.alloc (.cells (mvCells ⟨kind, at', tt, n, bb⟩ (.slice ad bb.length cap)) 40)) [Blk mb (mvCells ⟨kind, at', tt, n, bb⟩ (.slice ad bb.length cap)) 40] := (St.nil _ w).allocAt hmb (mvCells ⟨kind, at', tt, n, bb⟩ (.slice ad bb.length cap)) 40
  have d0 : (w.alloc (.cells (mvCells ⟨kind, at', tt, n, bb⟩ (.slice ad bb.length cap)) 40)).cell? ⟨mb, 0, none⟩ = some (.int .i64 kind) := HA.cell 0 0 rfl rfl
  have d4 : (w.alloc (.cells (mvCells ⟨kind, at', tt, n, bb⟩ (.slice ad bb.length cap)) 40)).cell? ⟨mb, 4, none⟩ = some (.slice ad bb.length cap) := HA.cell 0 4 rfl rfl
  have hvh := Lib.hid hv
  clear hv
  by_cases hbad : kind < 0 ∨ 7 < kind ∨ 128 < bb.length
  · have hfin := Lib.hid (show textM ⟨kind, at', tt, n, bb⟩ = [] by unfold textM; rw [if_pos hbad])
    by_cases h1 : kind < 0
    · have z1 : decide (kind < 0) = true := by simpa using h1
      clear hbad
      go_enter Tryd.func21, Tryd.ntmps21
      go_wp2
      go_ret
      rw [hfin.out]
      exact ⟨rfl, HA.below (by omega) (fun _ h => h.elim)⟩
    · have z1 : decide (kind < 0) = false := by simpa using h1
      by_cases h2 : 7 < kind
      · have z2 : decide (7 < kind) = true := by simpa using h2
        clear hbad
        go_enter Tryd.func21, Tryd.ntmps21
        go_wp2
        go_ret
        rw [hfin.out]
        exact ⟨rfl, HA.below (by omega) (fun _ h => h.elim)⟩
      · have z2 : decide (7 < kind) = false := by simpa using h2
        have h3 : 128 < bb.length := by omega
        have z3 : decide ((128 : Int) < (bb.length : Int)) = true := by simp; omega
        clear hbad
        go_enter Tryd.func21, Tryd.ntmps21
        go_wp2
        go_ret
        rw [hfin.out]
        exact ⟨rfl, HA.below (by omega) (fun _ h => h.elim)⟩
  obtain ⟨k, rfl⟩ := Int.eq_ofNat_of_zero_le (show 0 ≤ kind by omega)
  have hk8 : k < 8 := by omega
  have z1 : decide ((k : Int) < 0) = false := by simp
  have z2 : decide ((7 : Int) < (k : Int)) = false := by simp; omega
  have z3 : decide ((128 : Int) < (bb.length : Int)) = false := by simp; omega
  have hki : (k : Int) < 8 := by omega
  have hbb : bb.length ≤ 128 := by omega
  have hw0 := name_at hk8
  have kpa := fun w' => ref24_parts (k := (k : Int)) (by omega) (by omega) w'
  obtain ⟨hpa, hpl, hnl⟩ := word_parts k hk8
  have hT : textM ⟨k, at', tt, n, bb⟩ = match numsM ⟨k, at', tt, n, bb⟩ (wordsM.getD k ([], [])).2 (wordsM.getD k ([], [])).1 with
    | none => []
    | some s => if (k : Int) = 0 then s ++ 32 :: hexM bb else s := by
    unfold textM
    rw [if_neg hbad]
    rfl
  unfold partsM at kpa
  rw [Int.toNat_natCast] at kpa
  obtain ⟨nm, hnm⟩ : ∃ x, (wordsM.getD k ([], [])).1 = x := ⟨_, rfl⟩
  obtain ⟨pt, hpt⟩ : ∃ x, (wordsM.getD k ([], [])).2 = x := ⟨_, rfl⟩
  rw [hnm] at hw0 hnl hT
  rw [hpt] at hpa hpl hT kpa
  obtain ⟨NT, hNT⟩ : ∃ x, (texts nameTexts).toArray = x := ⟨_, rfl⟩
  have kna := fun w' => ref24_names w'
  rw [hNT] at hw0
  simp only [hNT] at kna
  have hTh := Lib.hid hT
  have hpah := Lib.hid hpa
  clear hbad hT hnm hpt hNT hpa
  go_enter Tryd.func21, Tryd.ntmps21
  go_upto_region 3 with (fail)
  obtain ⟨wa, hwa⟩ : ∃ wa, w.alloc (.cells (mvCells ⟨k, at', tt, n, bb⟩ (.slice ad bb.length cap)) 40) = wa := ⟨_, rfl⟩
  have hwa2 : w.alloc (.cells #[.int .i64 k, .int .i64 at', .int .i64 tt, .int .i64 n, .slice ad bb.length cap] 40) = wa := hwa
  rw [hwa] at HA
  try rw [hwa]
  try rw [hwa2]
  try simp only [hmb]
  clear hwa hwa2 d0 d4
  refine wp_script [(1, false), (2, false), (0, true), (3, false), (4, false), (5, false)] (Fam fun w' => St (fun _ => False) w w' [Blk mb (mvCells ⟨k, at', tt, n, bb⟩ (.slice ad bb.length cap)) 40]) (fun w' => St (fun _ => False) w w' [Blk mb (mvCells ⟨k, at', tt, n, bb⟩ (.slice ad bb.length cap)) 40]) (by kernel_rfl) (by rfl) (by kernel_rfl) (by kernel_rfl) HA.drew (Fam.st (fun _ h => h)) ?_
  iterate 2 first
    | (apply script_pass
       · rfl
       · rfl
       intro K hK
       go_simp
       refine hK _ ?_
       clear hK K)
    | (apply script_step
       · rfl
       · rfl
       · intro I hI w1 h1'
         have h1 := hI.2 _ h1'
         have e0 : w1.cell? ⟨mb, 0, none⟩ = some (.int .i64 k) := h1.cell 0 0 rfl rfl
         first
           | (go_simp
              first
                | rfl
                | exact ⟨rfl, h1'⟩
                | (trace_state; fail)
             )
       intro K hK
       go_simp
       refine hK _ ?_
       clear hK K)
  refine script_alone rfl rfl ?_
  intro V hV w1 h1
  go_simp
  refine (kna w1).mono ?_
  rintro e w2 ⟨gw, rfl, H2⟩
  have H3 : St (fun _ => False) w w2 [Blk gw NT 9, Blk mb (mvCells ⟨k, at', tt, n, bb⟩ (.slice ad bb.length cap)) 40] := h1.call0 H2
  refine ⟨_, rfl, fun w' => St (fun _ => False) w w' [Blk gw NT 9, Blk mb (mvCells ⟨k, at', tt, n, bb⟩ (.slice ad bb.length cap)) 40], hV _ _ _ (fun I hI => Fam.mono (fun w' h => St.pick (l := [Blk gw NT 9, Blk mb (mvCells ⟨k, at', tt, n, bb⟩ (.slice ad bb.length cap)) 40]) h [1]) I hI) (Fam.st (B := fun w' => St (fun _ => False) w w' [Blk gw NT 9, Blk mb (mvCells ⟨k, at', tt, n, bb⟩ (.slice ad bb.length cap)) 40]) (fun _ h => h)) ?_, H3⟩
  intro K hK
  go_simp
  refine hK _ ?_
  clear hK K hV V
  clear H3 H2 h1 w1 w2
  iterate 3 first
    | (apply script_pass
       · rfl
       · rfl
       intro K hK
       go_simp
       refine hK _ ?_
       clear hK K)
    | (apply script_step
       · rfl
       · rfl
       · intro I hI w1 h1'
         have h1 := hI.2 _ h1'
         have r0 : w1.cell? ⟨gw, k, none⟩ = some (.string ⟨nm.toArray⟩) := cell_blk' (h1.blk 0 rfl) hw0
         first
           | (go_simp
              first
                | rfl
                | exact ⟨rfl, h1'⟩
                | (trace_state; fail)
             )
       intro K hK
       go_simp
       refine hK _ ?_
       clear hK K)
  refine script_nil ?_
  intro w9 H9
  have H1 : St (fun _ => False) w w9 [Blk mb (mvCells ⟨k, at', tt, n, bb⟩ (.slice ad bb.length cap)) 40] := H9.pick [1]
  clear H9 HA hw0 kna
  have d0 : w9.cell? ⟨mb, 0, none⟩ = some (.int .i64 k) := H1.cell 0 0 rfl rfl
  go_upto_region 5 with (go_at_call 44; go_must (refine (St.callPast (kpa _) H1).mono ?_; rintro e w10 ⟨rfl, H2⟩))
  clear d0 H1 kpa
  go_upto_block 1 with (fail)
  go_loopw [3, 5] (fun s i wr => ∃ (j : Nat) (cur : List UInt8), j ≤ pt.length ∧ i = .int .i64 j ∧ s = .string ⟨cur.toArray⟩ ∧ cur.length ≤ 5 + 1001 * j ∧ Hid (numsM ⟨k, at', tt, n, bb⟩ (pt.drop j) cur = numsM ⟨k, at', tt, n, bb⟩ pt nm) ∧
    St (fun _ => False) w wr [Blk mb (mvCells ⟨k, at', tt, n, bb⟩ (.slice ad bb.length cap)) 40]) (fun _ i _ => pt.length - (intOf i).toNat)
  case atStart => exact ⟨0, nm, by omega, rfl, rfl, by omega, Lib.hid rfl, H2⟩
  case round =>
    clear H2
    obtain ⟨j, cur, hj, rfl, rfl, hcl, hnm, HL⟩ := hrel
    have hsz := txs_size pt
    by_cases hlt : j < pt.length
    · have hlt1 : decide ((j : Int) < (pt.length : Int)) = true := by simp; omega
      obtain ⟨c, hc⟩ : ∃ c, pt[j]? = some c := ⟨_, List.getElem?_eq_getElem hlt⟩
      have hjs : j < (⟨pt.toArray⟩ : ByteArray).size := by rw [hsz]; exact hlt
      have hxc := txs_at pt j hjs hc
      have hdrop : pt.drop j = c :: pt.drop (j + 1) := by
        rw [List.drop_eq_getElem_cons hlt, (List.getElem?_eq_some_iff.1 hc).2]
      rw [hdrop] at hnm
      have hnm2 := Lib.hid hnm.out
      have hpb : -9223372036854775808 ≤ (⟨k, at', tt, n, bb⟩ : Mv).part c ∧ (⟨k, at', tt, n, bb⟩ : Mv).part c ≤ 9223372036854775807 := by
        unfold Mv.part
        split
        · exact hr.1
        · split
          · exact hr.2.1
          · exact hr.2.2
      have hstep : numsM ⟨k, at', tt, n, bb⟩ (c :: pt.drop (j + 1)) cur = if (⟨k, at', tt, n, bb⟩ : Mv).part c < 0 then none else numsM ⟨k, at', tt, n, bb⟩ (pt.drop (j + 1)) (cur ++ 32 :: Lib.itoa ((⟨k, at', tt, n, bb⟩ : Mv).part c)) := rfl
      obtain ⟨q, hq⟩ : ∃ q, (⟨k, at', tt, n, bb⟩ : Mv).part c = q := ⟨_, rfl⟩
      rw [hq] at hpb hstep
      have hqh := Lib.hid hq
      have hstep2 := Lib.hid (hstep.symm.trans hnm2.out)
      clear hq hstep hnm2 hnm hdrop hc
      have d1 : wr.cell? ⟨mb, 1, none⟩ = some (.int .i64 at') := HL.cell 0 1 rfl rfl
      have d2 : wr.cell? ⟨mb, 2, none⟩ = some (.int .i64 tt) := HL.cell 0 2 rfl rfl
      have d3 : wr.cell? ⟨mb, 3, none⟩ = some (.int .i64 n) := HL.cell 0 3 rfl rfl
      obtain ⟨m1, hm1⟩ : ∃ m1, (if c = 97 then at' else n) = m1 := ⟨_, rfl⟩
      have hq2 := Lib.hid (show q = if c = 116 then tt else m1 by
        rw [← hqh.out, ← hm1]
        unfold Mv.part
        by_cases ca : c = 97
        · rw [if_pos ca, if_pos ca, if_neg (by rw [ca]; decide)]
        · rw [if_neg ca, if_neg ca])
      have hm1h := Lib.hid hm1
      clear hm1 hqh
      go_upto_if 42 with (fail)
      go_cut [6] from 43 to 44 (fun m wx => m = .int .i64 m1 ∧ wx = wr)
      case first =>
        by_cases ca : c = 97
        · have y1 : ((c.toNat : Int) == 97) = true := by rw [ca]; rfl
          have q1 := Lib.hid (show m1 = at' by rw [← hm1h.out, if_pos ca])
          clear ca
          go_wp2
          go_meet
          rw [q1.out]
          exact ⟨rfl, rfl⟩
        · have y1 : ((c.toNat : Int) == 97) = false := by
            rw [beq_eq_false_iff_ne]
            intro h
            exact ca (UInt8.toNat_inj.1 (by have e : (97 : UInt8).toNat = 97 := rfl; omega))
          have q1 := Lib.hid (show m1 = n by rw [← hm1h.out, if_neg ca])
          clear ca
          go_wp2
          go_meet
          rw [q1.out]
          exact ⟨rfl, rfl⟩
      case rest =>
      obtain ⟨rfl, e⟩ := hcut
      rw [e]
      clear e
      go_upto_if 48 with (fail)
      go_cut [6] from 49 to 50 (fun m wx => m = .int .i64 q ∧ wx = wr)
      case first =>
        by_cases ca : c = 116
        · have y1 : ((c.toNat : Int) == 116) = true := by rw [ca]; rfl
          have q1 := Lib.hid (show q = tt by rw [hq2.out, if_pos ca])
          clear ca
          go_wp2
          go_meet
          rw [q1.out]
          exact ⟨rfl, rfl⟩
        · have y1 : ((c.toNat : Int) == 116) = false := by
            rw [beq_eq_false_iff_ne]
            intro h
            exact ca (UInt8.toNat_inj.1 (by have e : (116 : UInt8).toNat = 116 := rfl; omega))
          have q1 := Lib.hid (show q = m1 by rw [hq2.out, if_neg ca])
          clear ca
          go_wp2
          go_meet
          rw [q1.out]
          exact ⟨rfl, rfl⟩
      case rest =>
        obtain ⟨rfl, e⟩ := hcut
        rw [e]
        clear e hxc hq2 hm1h d1 d2 d3
        by_cases hneg : q < 0
        · have hz0 := Lib.hid (show textM ⟨k, at', tt, n, bb⟩ = [] by
            have := hstep2.out
            rw [if_pos hneg] at this
            rw [hTh.out, ← this])
          have y0 : decide (q < 0) = true := by simpa using hneg
          clear hstep2
          go_wp2
          go_ret
          rw [hz0.out]
          exact ⟨rfl, HL.below (by omega) (fun _ h => h.elim)⟩
        · have hnx := Lib.hid (show numsM ⟨k, at', tt, n, bb⟩ (pt.drop (j + 1)) (cur ++ 32 :: Lib.itoa q) = numsM ⟨k, at', tt, n, bb⟩ pt nm by
            have := hstep2.out
            rw [if_neg hneg] at this
            exact this)
          have y0 : decide (q < 0) = false := by simpa using hneg
          have hil := Lib.itoa_length_le q hpb.1 hpb.2
          obtain ⟨iq, hiq⟩ : ∃ iq, Lib.itoa q = iq := ⟨_, rfl⟩
          have ki := lib_itoa hpb.1 hpb.2 (hV.st HL)
          rw [hiq] at hil ki hnx
          have v1 : (⟨iq.toArray⟩ : ByteArray).size = iq.length := by simp [ByteArray.size]
          have v2 : (⟨cur.toArray⟩ : ByteArray).size = cur.length := by simp [ByteArray.size]
          have v3 : (⟨(32 :: iq).toArray⟩ : ByteArray).size = iq.length + 1 := by simp [ByteArray.size]
          have hc1 := txt_space iq
          have hc2 := txt_cat cur (32 :: iq)
          clear hstep2 hiq
          have hjl : j ≤ 3 := by omega
          go_wp2_with (go_at_call 47; go_must (refine (St.callPast ki HL).mono ?_; rintro e w4 ⟨rfl, H4⟩))
          go_roundw
          case rel => exact ⟨j + 1, cur ++ 32 :: iq, by omega, by go_num, rfl, by simp; omega, hnx, H4⟩
          case measure => simp [intOf]; omega
    · obtain rfl : j = pt.length := by omega
      have hfin := Lib.hid (show textM ⟨k, at', tt, n, bb⟩ = if (k : Int) = 0 then cur ++ 32 :: hexM bb else cur by
        have := hnm.out
        rw [List.drop_length] at this
        rw [hTh.out, ← this]
        rfl)
      have hcl2 : cur.length ≤ 10000 := by omega
      have e0 : wr.cell? ⟨mb, 0, none⟩ = some (.int .i64 k) := HL.cell 0 0 rfl rfl
      have e4 : wr.cell? ⟨mb, 4, none⟩ = some (.slice ad bb.length cap) := HL.cell 0 4 rfl rfl
      have zl : decide ((pt.length : Int) < (pt.length : Int)) = false := by simp
      clear hnm hcl
      by_cases h0 : k = 0
      · subst h0
        simp only [Int.natCast_zero] at e0 ⊢
        have hc1 := txs_cat cur [32]
        have hfb := Lib.hid (show textM ⟨0, at', tt, n, bb⟩ = cur ++ 32 :: hexM bb from hfin.out)
        clear hfin
        go_upto_if 66 with (fail)
        go_cut [3] from 67 to 68 (fun s wx => s = .string ⟨(cur ++ 32 :: (if bb = [] then [45] else [])).toArray⟩ ∧ wx = wr)
        case first =>
          by_cases hb0 : bb = []
          · subst hb0
            have hc2 := txs_cat (cur ++ [32]) [45]
            have e5 := Lib.hid (show cur ++ 32 :: (if ([] : List UInt8) = [] then [45] else []) = cur ++ [32, 45] by simp)
            have v2 : (cur ++ [32]).length + 1 ≤ 9223372036854775807 := by simp; omega
            go_wp2
            go_meet
            rw [e5.out]
            exact ⟨rfl, rfl⟩
          · have y1 : ((bb.length : Int) == 0) = false := by
              rw [beq_eq_false_iff_ne]
              have := List.length_pos_iff.2 hb0
              omega
            have e5 := Lib.hid (show cur ++ 32 :: (if bb = [] then [45] else []) = cur ++ [32] by rw [if_neg hb0])
            clear hb0
            go_wp2
            go_meet
            rw [e5.out]
            exact ⟨rfl, rfl⟩
        case rest =>
          obtain ⟨rfl, e⟩ := hcut
          rw [e]
          clear e hc1 e0
          obtain ⟨base, hbase⟩ : ∃ base, cur ++ 32 :: (if bb = [] then [45] else []) = base := ⟨_, rfl⟩
          have hbl2 : base.length ≤ 10002 := by rw [← hbase]; split <;> simp <;> omega
          have hfc := Lib.hid (show textM ⟨0, at', tt, n, bb⟩ = base ++ hexOf bb by
            rw [hfb.out, ← hbase]
            unfold hexM
            split
            · rename_i h; subst h; simp [hexOf]
            · simp)
          rw [hbase]
          clear hbase hfb
          go_upto_block 5 with (fail)
          go_loopw [3, 72] (fun s i wq => ∃ (j : Nat), j ≤ bb.length ∧ i = .int .i64 j ∧ s = .string ⟨(base ++ hexOf (bb.take j)).toArray⟩ ∧ St (fun _ => False) w wq [Blk mb (mvCells ⟨0, at', tt, n, bb⟩ (.slice ad bb.length cap)) 40]) (fun _ i _ => bb.length - (intOf i).toNat)
          case atStart => exact ⟨0, by omega, rfl, by simp [hexOf], HL⟩
          case round =>
            clear HL e4
            obtain ⟨j, hjb, rfl, rfl, HK⟩ := hrel
            by_cases hlb : j < bb.length
            · have zb : decide ((j : Int) < (bb.length : Int)) = true := by simp; omega
              obtain ⟨c, hc⟩ : ∃ c, bb[j]? = some c := ⟨_, List.getElem?_eq_getElem hlb⟩
              obtain ⟨b, o, rfl, c0⟩ : ∃ b o, ad = some ⟨b, o, none⟩ ∧ wr.cell? ⟨b, o + j, none⟩ = some (.int .u8 ((c.toNat : Nat) : Int)) := by
                obtain ⟨ad', cap', e, _, hcc⟩ := hvh.out
                injection e with e _ _
                obtain ⟨b, o, rfl, hb, hS, hcell⟩ := hcc (by rintro rfl; simp at hlb)
                refine ⟨b, o, e, ?_⟩
                rw [World.cell?_of_block (w := w) (HK.kept.block b hb hS), hcell j hlb, (List.getElem?_eq_some_iff.1 hc).2]
                rfl
              have hst := Lib.hid (hexOf_take hc)
              have hcl := c.toNat_lt
              obtain ⟨p, hp⟩ : ∃ p, c.toNat / 16 = p := ⟨_, rfl⟩
              obtain ⟨q, hq⟩ : ∃ q, c.toNat % 16 = q := ⟨_, rfl⟩
              have hp16 : p < 16 := by omega
              have hq16 : q < 16 := by omega
              have f1 : IntKind.u8.wrap ((c.toNat : Int) / 16) = (p : Int) := by
                have : (c.toNat : Int) / 16 = (p : Int) := by omega
                rw [this]
                simp [IntKind.wrap, IntKind.signed, IntKind.bits]
                omega
              have f2 : (c.toNat : Int).tmod 16 = (q : Int) := by rw [Int.tmod_eq_emod_of_nonneg (by omega)]; omega
              have f3 : IntKind.u8.wrap ((p : Int) + 1) = ((p + 1 : Nat) : Int) := by
                simp [IntKind.wrap, IntKind.signed, IntKind.bits]
                omega
              have f4 : IntKind.u8.wrap ((q : Int) + 1) = ((q + 1 : Nat) : Int) := by
                simp [IntKind.wrap, IntKind.signed, IntKind.bits]
                omega
              have g1 : (0 : Int) ≤ (p : Int) + 1 := by omega
              have g2 : (p : Int) + 1 ≤ 16 := by omega
              have g3 : (p : Int) ≤ (p : Int) + 1 := by omega
              have g4 : (0 : Int) ≤ (q : Int) + 1 := by omega
              have g5 : (q : Int) + 1 ≤ 16 := by omega
              have g6 : (q : Int) ≤ (q : Int) + 1 := by omega
              have x1 := hexL_part hp16
              have x2 := hexL_part hq16
              have hst2 := Lib.hid (show base ++ hexOf (bb.take (j + 1)) = base ++ hexOf (bb.take j) ++ [digit16 p, digit16 q] by rw [hst.out, hp, hq]; simp)
              have hxl : (hexOf (bb.take j)).length ≤ 256 := by rw [hexOf_len, List.length_take]; omega
              obtain ⟨t, ht⟩ : ∃ t, base ++ hexOf (bb.take j) = t := ⟨_, rfl⟩
              have htl : t.length ≤ 20000 := by rw [← ht]; simp; omega
              have g7 : ¬ (9223372036854775807 < t.length + 2) := by omega
              rw [ht] at hst2
              rw [ht]
              have k1 := txs_cat [digit16 p] [digit16 q]
              have k2 := txs_cat t [digit16 p, digit16 q]
              clear hst hc hxl ht hp hq hcl
              go_upto_region 23 with (fail)
              refine wp_calm (fun w' => St (fun _ => False) w w' [Blk mb (mvCells ⟨0, at', tt, n, bb⟩ (.slice (some ⟨b, o, none⟩) bb.length cap)) 40]) (by kernel_rfl) (by kernel_rfl) (HK.drew) ?_
              iterate 16 first
                | (apply calm_pass
                   · rfl
                   intro K hK
                   go_simp
                   refine hK _ ?_
                   clear hK K)
                | (apply calm_step
                   · rfl
                   · intro w1 h1
                     first
                       | (go_simp
                          first
                            | rfl
                            | exact ⟨rfl, h1⟩
                            | (trace_state; fail)
                         )
                   intro K hK
                   go_simp
                   refine hK _ ?_
                   clear hK K)
              refine calm_nil ?_
              intro w11 H11
              go_wp2
              go_roundw
              case rel => exact ⟨j + 1, by omega, by go_num, by rw [hst2.out], H11⟩
              case measure => simp [intOf]; omega
            · obtain rfl : j = bb.length := by omega
              rw [List.take_length, ← hfc.out]
              have zb : decide ((bb.length : Int) < (bb.length : Int)) = false := by simp
              go_wp2
              go_ret
              exact ⟨rfl, HK.below (by omega) (fun _ h => h.elim)⟩
      · have z1' : ((k : Int) == 0) = false := by simp; omega
        have hfin2 := Lib.hid (show textM ⟨k, at', tt, n, bb⟩ = cur by rw [hfin.out, if_neg (by omega)])
        clear hfin h0
        go_wp2
        go_ret
        rw [hfin2.out]
        exact ⟨rfl, HL.below (by omega) (fun _ h => h.elim)⟩

end Go.Proofs.YtaafedpjifaghaaDoor
