/- The walk of the reference's store: Lay. Conditions: its blocks lie as its maker lays them. -/
import Derived.Test.YtbikjhmdpgoofabRefD
namespace Go.Proofs.Ytbikjhmdpgoofab
open Go.RowKit

theorem filter_snoc {p : Int × List UInt8 → Bool} (A : List (Int × List UInt8)) (y : Int × List UInt8) : (A ++ [y]).filter p = if p y then A.filter p ++ [y] else A.filter p := by
  rw [List.filter_append]
  cases h : p y <;> simp [h]

set_option maxHeartbeats 2000000 in
set_option maxRecDepth 100000 in
theorem ref_lay {b : Nat} {m : StM} {at' : Int} {bs : List UInt8} {w : World} {S : Nat → Prop} (hg : m.Good) (hbl : bs.length ≤ 9223372036854775807) (H : Sep w [RefAt b m] S) :
    Calls Try.prog 82 #[.pointer (some ⟨b, 0, none⟩), .int .i64 at', textV bs] w fun e w' => e = .returned (.bool (m.lay at' bs).1) ∧ St S w w' [RefAt b (m.lay at' bs).2] := by
  have hcnt := hg.count
  have hwl := hg.room
  have hsz := text_len bs
  have hH := Lib.hid (St.refl H)
  obtain ⟨vl, vw, vc, H3⟩ := RefAt.open (St.refl H)
  have H3 : St S w w [Blk b #[vl, vw, .int .i64 m.calls, vc] 41, Row 9 1 vl m.last.length (texts m.last), Row 46 2 vw m.waits.length (refWaits m.waits), Row 3 1 vc m.reads.length (intCells m.reads)] := H3
  obtain ⟨gl, ll, rfl⟩ := row_form (H3.row 1 rfl) (N := m.last.length) rfl (by omega)
  obtain ⟨aw, cw, rfl, _, haw⟩ := slice_form' (H3.row 2 rfl)
  have c0 := H3.cell 0 0 rfl rfl
  unfold textV
  by_cases h0 : 0 ≤ at'
  · have e0 : decide (at' < 0) = false := by simpa using h0
    by_cases h1 : at' < m.last.length
    · have e1 : decide ((m.last.length : Int) ≤ at') = false := by simpa using h1
      by_cases h2 : bs.length = 128
      · obtain ⟨p, rfl⟩ := Int.eq_ofNat_of_zero_le h0
        have hin : m.inn p = true := by simp [StM.inn, h1]
        have e1n : decide (m.last.length ≤ p) = false := by simp; omega
        have hpl : p < m.last.length := by omega
        have hfin : m.lay p bs = (true, { m with last := m.last.set p bs, waits := m.waits.filter fun x => !decide (x.1 = (p : Int)) }) := by unfold StM.lay; rw [if_pos ⟨hin, h2⟩]; rfl
        have e2 : ((⟨bs.toArray⟩ : ByteArray).size : Int) = 128 := by rw [hsz]; omega
        rw [hfin]
        rw [h2] at hsz
        obtain ⟨z, hz⟩ : ∃ z, m.last[p]? = some z := ⟨_, List.getElem?_eq_getElem (by omega)⟩
        have r0 := H3.rowCell 1 p rfl (texts_at hz)
        unfold textV at r0
        have f0 := H3.rowFree 1 p rfl
        have H6 : St S w (w.setCell ⟨gl, p, none⟩ (.string ⟨bs.toArray⟩)) [_, _, _, _] := H3.textSet 1 rfl p bs rfl
        clear hfin hin hz hH H3 h2 e2
        go_enter Try.func82, Try.ntmps82
        go_upto_region 4 with (fail)
        obtain ⟨w1, hw1⟩ : ∃ w1, w.setCell ⟨gl, p, none⟩ (.string ⟨bs.toArray⟩) = w1 := ⟨_, rfl⟩
        rw [hw1] at H6
        try rw [hw1]
        clear hw1 c0 r0 f0
        have c1 := H6.cell 0 1 rfl rfl
        have H7 : St S w w1 [Row 46 2 (.slice none 0 0) 0 (refWaits []), Blk b #[.slice (some ⟨gl, 0, none⟩) m.last.length ll, .slice aw m.waits.length cw, .int .i64 m.calls, vc] 41, Row 9 1 (.slice (some ⟨gl, 0, none⟩) m.last.length ll) m.last.length (texts (m.last.set p bs)), Row 46 2 (.slice aw m.waits.length cw) m.waits.length (refWaits m.waits), Row 3 1 vc m.reads.length (intCells m.reads)] := H6.row_nil 46 2
        clear H6
        go_upto_block 1 with (fail)
        clear c1
        go_loopw [7, 38] (fun u j wr => ∃ (k : Nat) (Q : List (Int × List UInt8)), k ≤ m.waits.length ∧ j = .int .i64 k ∧ Q = (m.waits.take k).filter (fun x => !decide (x.1 = (p : Int))) ∧ Q.length ≤ k ∧
          St S w wr [Row 46 2 u Q.length (refWaits Q), Blk b #[.slice (some ⟨gl, 0, none⟩) m.last.length ll, .slice aw m.waits.length cw, .int .i64 m.calls, vc] 41, Row 9 1 (.slice (some ⟨gl, 0, none⟩) m.last.length ll) m.last.length (texts (m.last.set p bs)), Row 46 2 (.slice aw m.waits.length cw) m.waits.length (refWaits m.waits), Row 3 1 vc m.reads.length (intCells m.reads)]) (fun _ j _ => m.waits.length - (intOf j).toNat)
        case atStart => exact ⟨0, [], by omega, rfl, rfl, by simp, H7⟩
        case round =>
          clear H7
          obtain ⟨k, Q, hk, rfl, hQ, hQl, HL⟩ := hrel
          by_cases hlt : k < m.waits.length
          · obtain ⟨gw, rfl⟩ := haw (by omega)
            obtain ⟨y, hy⟩ : ∃ y, m.waits[k]? = some y := ⟨_, List.getElem?_eq_getElem hlt⟩
            have hst : (m.waits.take (k + 1)).filter (fun x => !decide (x.1 = (p : Int))) = if y.1 = (p : Int) then Q else Q ++ [y] := by
              rw [take_snoc' hy, filter_snoc, ← hQ]
              by_cases h : y.1 = (p : Int) <;> simp [h]
            have q1 := HL.rowCell 3 (k * 2) rfl (refWaits_at hy).1
            have q2 := HL.rowCell 3 (k * 2 + 1) rfl (refWaits_at hy).2
            have hgw := HL.row_lt 3 rfl
            clear hy hQ
            obtain ⟨y1, y2⟩ := y
            simp only at q1 q2 hst
            unfold textV at q2
            have HA : St S w _ [_, _, _, _, _, _] := HL.allocAt rfl #[.int .i64 y1, .string ⟨y2.toArray⟩] 46
            go_upto_region 8 with (fail)
            obtain ⟨wa, hwa⟩ : ∃ wa, wr.alloc (.cells #[.int .i64 y1, .string ⟨y2.toArray⟩] 46) = wa := ⟨_, rfl⟩
            obtain ⟨ob, hob⟩ : ∃ ob, wr.heap.size = ob := ⟨_, rfl⟩
            rw [hwa, hob] at HA
            try rw [hwa]
            try simp only [hob]
            clear hwa hob q1 q2 HL
            have d0 := HA.cell 0 0 rfl rfl
            have d1 := HA.cell 0 1 rfl rfl
            by_cases hyp : y1 = (p : Int)
            · have z1 : (y1 != (p : Int)) = false := by simpa using hyp
              have hst2 := Lib.hid (show (m.waits.take (k + 1)).filter (fun x => !decide (x.1 = (p : Int))) = Q by rw [hst, if_pos hyp])
              clear hst hyp
              go_wp2
              go_roundw
              case rel => exact ⟨k + 1, Q, by omega, by go_num, hst2.out.symm, by omega, HA.pick [1, 2, 3, 4, 5]⟩
              case measure => simp [intOf]; omega
            · have z1 : (y1 != (p : Int)) = true := by simpa using hyp
              have hst2 := Lib.hid (show (m.waits.take (k + 1)).filter (fun x => !decide (x.1 = (p : Int))) = Q ++ [(y1, y2)] by rw [hst, if_neg hyp])
              clear hst hyp
              go_wp2_with (at_builtin; go_must (refine St.list_app (HA.skip _) 1 rfl rfl (.tmp 46) (.tmp 48) 38 rfl Try.underlying38 Try.info46 (by decide) rfl [.int .i64 y1, .string ⟨y2.toArray⟩] rfl rfl (new_cells #[.int .i64 y1, .string ⟨y2.toArray⟩] _) (by simp [Value.oneCell']) (by omega) (by omega) ?_; intro g cap2 w3 H4 hz3))
              go_roundw
              case rel =>
                refine ⟨k + 1, Q ++ [(y1, y2)], by omega, by go_num, hst2.out.symm, by simp; omega, ?_⟩
                rw [refWaits_snoc, List.length_append]
                exact H4.pick [1, 2, 3, 4, 5]
              case measure => simp [intOf]; omega
          · obtain rfl : k = m.waits.length := by omega
            rw [List.take_length] at hQ
            have hQh := Lib.hid hQ
            clear hQ
            have s1 := HL.cell 1 1 rfl rfl
            have f1 := HL.free 1 1 rfl
            obtain ⟨ua, uc, rfl, _, _⟩ := slice_form' (HL.row 0 rfl)
            have H6 : St S w _ [_, _, _, _, _] := HL.set 1 rfl 1 (.slice ua Q.length uc)
            go_wp2
            go_ret
            refine ⟨rfl, RefAt.mk (l := []) (vl := .slice (some ⟨gl, 0, none⟩) m.last.length ll) (vw := .slice ua Q.length uc) (vc := vc) ?_⟩
            unfold refParts
            simp only [List.length_set]
            rw [← hQh.out]
            exact H6.pick [1, 2, 0, 4]
      · have hfin : m.lay at' bs = (false, m) := by unfold StM.lay; rw [if_neg (fun h => h2 h.2)]
        have e2 : (bs.length != 128) = true := by simpa using h2
        have e3 : ((bs.length : Int) != 128) = true := by simp; omega
        rw [hfin]
        clear hfin h2
        go_enter Try.func82, Try.ntmps82
        go_wp2
        go_ret
        exact ⟨rfl, hH.out⟩
    · have hfin : m.lay at' bs = (false, m) := by unfold StM.lay; rw [if_neg (fun h => by have := h.1; simp [StM.inn] at this; omega)]
      have e1 : decide ((m.last.length : Int) ≤ at') = true := by simpa using h1
      rw [hfin]
      clear hfin
      go_enter Try.func82, Try.ntmps82
      go_wp2
      go_ret
      exact ⟨rfl, hH.out⟩
  · have hfin : m.lay at' bs = (false, m) := by unfold StM.lay; rw [if_neg (fun h => by have := h.1; simp [StM.inn] at this; omega)]
    have e0 : decide (at' < 0) = true := by simpa using h0
    rw [hfin]
    clear hfin
    go_enter Try.func82, Try.ntmps82
    go_wp2
    go_ret
    exact ⟨rfl, hH.out⟩

end Go.Proofs.Ytbikjhmdpgoofab
