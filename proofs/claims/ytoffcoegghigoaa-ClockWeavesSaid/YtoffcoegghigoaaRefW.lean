/- The document's Weave. Condition: at most 10^6 items. -/
import Derived.Test.YtoffcoegghigoaaItmR
namespace Go.Proofs.Ytoffcoegghigoaa
open Go.RowKit

theorem see_nonneg {c : Clk} {t : Int} (h : (c.see t).2.2 = true) : 0 ≤ (c.see t).2.1 := by
  unfold Clk.see at h ⊢
  by_cases h1 : timeOk t = false
  · rw [if_pos h1] at h
    exact absurd h (by simp)
  · rw [if_neg h1] at h ⊢
    by_cases h2 : max c.top t - c.slack < 0 ∨ (0 ≤ c.last ∧ max c.top t - c.slack < c.last + c.step)
    · rw [if_pos h2] at h
      exact absurd h (by simp)
    · rw [if_neg h2]
      simp only
      omega
theorem ints_snoc (M : List Int) (x : Int) : intCells (M ++ [x]) = intCells M ++ [.int .i64 x] := by simp [intCells]

set_option maxHeartbeats 4000000 in
set_option maxRecDepth 100000 in
theorem ref_weave {v : Value} {l : List Itm} (w : World) {slack step : Int} (hgood : clkGood slack step = true) (hv : ItmsRO w v l) (hl : l.length ≤ 3518437208880) :
    Calls Try.prog 44 #[.int .i64 slack, .int .i64 step, v] w fun e w' => ∃ v', e = .returned v' ∧ St (fun _ => False) w w' [Row 85 4 v' ((newClk slack step).weave (l.filter Itm.counts)).length (itms ((newClk slack step).weave (l.filter Itm.counts)))] := by
  have hok0 := newClk_ok hgood
  have hf : ∀ x ∈ l, x.fits := by obtain ⟨_, _, _, _, h, _⟩ := hv; exact h
  have hEf : ∀ x ∈ l.filter Itm.counts, x.fits := fun x hx => hf x (List.mem_filter.1 hx).1
  have hEl : (l.filter Itm.counts).length ≤ 3518437208880 := Nat.le_trans (List.length_filter_le _ _) hl
  have ke := ref_events w hv (by omega)
  obtain ⟨E, hE⟩ : ∃ E, l.filter Itm.counts = E := ⟨_, rfl⟩
  rw [hE] at hEf hEl ke ⊢
  clear hE hf hv
  go_enter Try.func44, Try.ntmps44
  go_upto_block 1 with (go_at_call 65; go_must (refine ke.mono ?_; rintro e w2 ⟨ve, rfl, H3⟩; obtain ⟨ea, ec, rfl, hec, hea⟩ := slice_form' (H3.row 0 rfl)))
  have H4 : St (fun _ => False) w w2 [Row 3 1 (.slice none 0 0) 0 (intCells []), Row 85 4 (.slice none 0 0) 0 (itms []), Row 85 4 (.slice ea E.length ec) E.length (itms E)] := (H3.row_nil 85 4).row_nil 3 1
  clear H3 ke
  go_loopw [7, 8, 15] (fun u u2 j wr => ∃ (k : Nat) (c : Clk) (W : List Itm) (M : List Int), k ≤ E.length ∧ j = .int .i64 k ∧ M.length = k ∧ Hid (c = (newClk slack step).run M) ∧ Hid (W = (newClk slack step).weave (E.take k)) ∧ Hid (M = (E.take k).map Itm.time) ∧ St (fun _ => False) w wr [Row 3 1 u2 k (intCells M), Row 85 4 u W.length (itms W), Row 85 4 (.slice ea E.length ec) E.length (itms E)]) (fun _ _ j _ => E.length - (intOf j).toNat)
  case atStart => exact ⟨0, newClk slack step, [], [], by omega, rfl, rfl, Lib.hid rfl, Lib.hid rfl, Lib.hid rfl, H4⟩
  case round =>
    clear H4
    obtain ⟨k, c, W, M, hk, rfl, hMl, hc, hW, hM, HM⟩ := hrel
    by_cases hkl : k < E.length
    · obtain ⟨ge, rfl⟩ := hea (by omega)
      obtain ⟨x, hx⟩ : ∃ x, E[k]? = some x := ⟨_, List.getElem?_eq_getElem hkl⟩
      have hxf := hEf x (List.mem_of_getElem? hx)
      obtain ⟨q0, q1, q2, q3⟩ := row_itms (HM.row 2 rfl) hx
      have hWl : W.length ≤ k + 1099511627777 := by
        have := weave_len2 hgood (E.take k)
        rw [hW.out]
        rw [List.length_take] at this
        omega
      have hcn := Lib.hid (show (newClk slack step).run (M ++ [x.time]) = (c.see x.time).1 by rw [run_snoc, ← hc.out])
      have hMn := Lib.hid (show (E.take (k + 1)).map Itm.time = M ++ [x.time] by rw [take_snoc' hx, List.map_append, List.map_cons, List.map_nil, ← hM.out])
      have hwn := Lib.hid (show (newClk slack step).weave (E.take (k + 1)) = W ++ (x :: (if (c.see x.time).2.2 = true then [⟨2, [], (c.see x.time).2.1, 0⟩] else [])) by rw [take_snoc' hx, weave_snoc, ← hM.out, ← hc.out, ← hW.out])
      obtain ⟨k1, hk1⟩ : ∃ k1, k + 1 = k1 := ⟨_, rfl⟩
      have hMf : ∀ z ∈ M ++ [x.time], -9223372036854775808 ≤ z ∧ z ≤ 9223372036854775807 := by
        intro z hz
        rcases List.mem_append.1 hz with hz | hz
        · rw [hM.out] at hz
          obtain ⟨y, hy, rfl⟩ := List.mem_map.1 hz
          exact (hEf y (List.mem_of_mem_take hy)).2.2.1
        · obtain rfl := List.mem_singleton.1 hz
          exact hxf.2.2.1
      have hl1 : (M ++ [x.time]).length = k1 := by rw [List.length_append, hMl]; exact hk1
      have km := fun (w' : World) (v' : Value) (h : IntsRO w' v' (M ++ [x.time])) => ref_marks w' hgood h (by omega)
      have hmk : ((newClk slack step).marks (M ++ [x.time]))[k]? = some (c.mark x.time) := by
        rw [marks_get (i := k) (t := x.time) (by rw [List.getElem?_append_right (by omega), hMl, Nat.sub_self]; rfl), List.take_append_of_le_length (by omega), List.take_of_length_le (by omega), ← hc.out]
      have hml : ((newClk slack step).marks (M ++ [x.time])).length = k1 := by rw [marks_len]; exact hl1
      obtain ⟨c', hc'⟩ : ∃ c', (c.see x.time).1 = c' := ⟨_, rfl⟩
      have hnn := see_nonneg (c := c) (t := x.time)
      unfold Clk.mark at hmk
      obtain ⟨mk, hmk'⟩ : ∃ mk, (c.see x.time).2.1 = mk := ⟨_, rfl⟩
      obtain ⟨ok, hok'⟩ : ∃ ok, (c.see x.time).2.2 = ok := ⟨_, rfl⟩
      obtain ⟨ML, hML⟩ : ∃ ML, (newClk slack step).marks (M ++ [x.time]) = ML := ⟨_, rfl⟩
      rw [hmk', hok'] at hwn hmk hnn
      rw [hc'] at hcn
      simp only [hML] at km
      rw [hML] at hmk hml
      have hwk : IntKind.i64.wrap ((k1 : Int) - 1) = (k : Int) := by rw [IntKind.wrap_i64]; omega
      have hkk : (k : Int) < (k1 : Int) := by omega
      have hkk' : k < k1 := by omega
      have hk1h := Lib.hid hk1
      simp only [hk1] at hMn hwn
      rw [hl1] at km
      clear hc hW hM hx hc' hmk' hok' hML hk1 hxf
      obtain ⟨xk, xy, xt, xv⟩ := x
      simp only at q0 q1 q2 q3 km hwn hMn hcn hMf hl1
      unfold textV at q1
      have HA : St (fun _ => False) w _ [_, _, _, _] := HM.allocAt rfl #[.int .i64 xk, .string ⟨xy.toArray⟩, .int .i64 xt, .int .i64 xv] 85
      go_upto_region 6 with (fail)
      obtain ⟨wb, hwb⟩ : ∃ wb, wr.alloc (.cells #[.int .i64 xk, .string ⟨xy.toArray⟩, .int .i64 xt, .int .i64 xv] 85) = wb := ⟨_, rfl⟩
      obtain ⟨xb, hxb⟩ : ∃ xb, wr.heap.size = xb := ⟨_, rfl⟩
      rw [hwb, hxb] at HA
      try rw [hwb]
      try simp only [hxb]
      have HA2 : St (fun _ => False) w wb [Blk xb #[.int .i64 xk, .string ⟨xy.toArray⟩, .int .i64 xt, .int .i64 xv] 85, Row 3 1 u8 k (intCells M), Row 85 4 u7 W.length (itms W), Row 85 4 (.slice (some ⟨ge, 0, none⟩) E.length ec) E.length (itms E)] := HA
      clear hwb hxb q0 q1 q2 q3 HM HA
      have d0 := HA2.cell 0 0 rfl rfl
      have d1 := HA2.cell 0 1 rfl rfl
      have d2 := HA2.cell 0 2 rfl rfl
      have d3 := HA2.cell 0 3 rfl rfl
      go_upto_region 7 with (at_builtin; go_must (refine St.list_app (HA2.skip _) 1 rfl rfl (.tmp 19) (.tmp 22) 44 rfl Try.underlying44 Try.info3 (by decide) rfl [.int .i64 xt] rfl rfl (new_cells #[.int .i64 xt] _) (by simp [Value.oneCell']) (by omega) (by omega) ?_; intro g5 cap5 w5 H5 hz5))
      have d0 := H5.cell 0 0 rfl rfl
      have d1 := H5.cell 0 1 rfl rfl
      have d2 := H5.cell 0 2 rfl rfl
      have d3 := H5.cell 0 3 rfl rfl
      clear HA2
      go_upto_region 8 with (at_builtin; go_must (refine St.list_appw (H5.skip _) 2 rfl rfl (.tmp 24) (.tmp 26) 65 rfl Try.underlying65 Try.info85 (by decide) rfl [.int .i64 xk, .string ⟨xy.toArray⟩, .int .i64 xt, .int .i64 xv] rfl rfl (new_cells #[.int .i64 xk, .string ⟨xy.toArray⟩, .int .i64 xt, .int .i64 xv] _) (by simp [Value.oneCell']) (by omega) (by omega) ?_; intro g6 cap6 w6 H6 hz6))
      have H6 : St (fun _ => False) w w6 [Blk xb #[.int .i64 xk, .string ⟨xy.toArray⟩, .int .i64 xt, .int .i64 xv] 85, Row 3 1 (.slice (some ⟨g5, 0, none⟩) (k + 1) cap5) (k + 1) (intCells M ++ [.int .i64 xt]), Row 85 4 (.slice (some ⟨g6, 0, none⟩) (W.length + 1) cap6) (W.length + 1) (itms W ++ [.int .i64 xk, .string ⟨xy.toArray⟩, .int .i64 xt, .int .i64 xv]), Row 85 4 (.slice (some ⟨ge, 0, none⟩) E.length ec) E.length (itms E)] := H6
      rw [← ints_snoc] at H6
      have hkm := km w6 _ (ints_own (H6.row 1 rfl) hMf)
      clear d0 d1 d2 d3 H5 km
      go_upto_region 9 with (go_at_call 38; go_must (refine hkm.mono ?_; rintro e w7 ⟨vm, rfl, H7⟩; obtain ⟨ma, mc, rfl, hmc, hma⟩ := slice_form' (H7.row 0 rfl); obtain ⟨gm, rfl⟩ := hma (by omega); have cm := own_cell (H7.row 0 rfl) (show (intCells ML)[k]? = _ by rw [intCells, List.getElem?_map, hmk]; rfl); have H8 := H6.call0 H7))
      have hk2 : k + 1 = k1 := hk1h.out
      have H8 : St (fun _ => False) w w7 [Row 3 1 (.slice (some ⟨gm, 0, none⟩) k1 mc) k1 (intCells ML), Blk xb #[.int .i64 xk, .string ⟨xy.toArray⟩, .int .i64 xt, .int .i64 xv] 85, Row 3 1 (.slice (some ⟨g5, 0, none⟩) k1 cap5) k1 (intCells (M ++ [xt])), Row 85 4 (.slice (some ⟨g6, 0, none⟩) (W.length + 1) cap6) (W.length + 1) (itms W ++ [.int .i64 xk, .string ⟨xy.toArray⟩, .int .i64 xt, .int .i64 xv]), Row 85 4 (.slice (some ⟨ge, 0, none⟩) E.length ec) E.length (itms E)] := by rw [← hk2]; rw [← hk2] at H8; exact H8
      clear hk2 hkm H6
      cases ok with
      | false =>
        simp only [Bool.false_eq_true, if_false] at cm hwn
        go_wp2
        go_roundw
        case rel =>
          have := hk1h.out
          refine ⟨k1, c', W ++ [⟨xk, xy, xt, xv⟩], M ++ [xt], by omega, by go_num, hl1, Lib.hid hcn.out.symm, Lib.hid hwn.out.symm, Lib.hid hMn.out.symm, ?_⟩
          rw [itms_app, itms_one, List.length_append]
          rw [this]
          exact H8.pick [2, 3, 4]
        case measure => have := hk1h.out; simp [intOf]; omega
      | true =>
        simp only [if_true] at cm hwn
        have hnn0 := hnn rfl
        go_wp2_with (at_builtin; go_must (refine St.list_appw (H8.skip _) 3 rfl rfl (.tmp 39) (.tmp 47) 65 rfl Try.underlying65 Try.info85 (by decide) rfl [.int .i64 2, .string ⟨#[]⟩, .int .i64 mk, .int .i64 0] rfl rfl (new_cells #[.int .i64 2, .string ⟨#[]⟩, .int .i64 mk, .int .i64 0] _) (by simp [Value.oneCell']) (by omega) (by omega) ?_; intro g9 cap9 w9 H9 hz9))
        go_roundw
        case rel =>
          have := hk1h.out
          refine ⟨k1, c', W ++ [⟨xk, xy, xt, xv⟩, ⟨2, [], mk, 0⟩], M ++ [xt], by omega, by go_num, hl1, Lib.hid hcn.out.symm, Lib.hid hwn.out.symm, Lib.hid hMn.out.symm, ?_⟩
          have e1 : itms (W ++ [⟨xk, xy, xt, xv⟩, ⟨2, [], mk, 0⟩]) = itms W ++ [.int .i64 xk, .string ⟨xy.toArray⟩, .int .i64 xt, .int .i64 xv] ++ [.int .i64 2, .string ⟨#[]⟩, .int .i64 mk, .int .i64 0] := by rw [itms_app]; simp [itms, textV]
          rw [e1, List.length_append]
          rw [this]
          exact H9.pick [2, 3, 4]
        case measure => have := hk1h.out; simp [intOf]; omega
    · obtain rfl : k = E.length := by omega
      rw [List.take_length] at hW
      obtain ⟨ua, uc, rfl, _, _⟩ := slice_form' (HM.row 1 rfl)
      go_wp2
      go_ret
      rw [← hW.out]
      exact ⟨_, rfl, HM.pick [1]⟩
end Go.Proofs.Ytoffcoegghigoaa
