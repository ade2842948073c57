/- clock's events, Weave, Disorder. Condition: so many items. -/
import Derived.Test.YtoffcoegghigoaaClkD
import Derived.Test.YtoffcoegghigoaaClkB
import Derived.Test.YtoffcoegghigoaaWide
namespace Go.Proofs.Ytoffcoegghigoaa
open Go.RowKit

theorem row_itms {w : World} {base g n cap : Nat} {L : List Itm} {e : TypeId} (h : w.ownsRow base e 4 (.slice (some ⟨g, 0, none⟩) n cap) n (itms L)) {j : Nat} {x : Itm} (hx : L[j]? = some x) :
    w.cell? ⟨g, j * 4, none⟩ = some (.int .i64 x.kind) ∧ w.cell? ⟨g, j * 4 + 1, none⟩ = some (textV x.key) ∧ w.cell? ⟨g, j * 4 + 2, none⟩ = some (.int .i64 x.time) ∧ w.cell? ⟨g, j * 4 + 3, none⟩ = some (.int .i64 x.value) :=
  ⟨own_cell h (itms_get (j := 0) hx rfl), own_cell h (itms_get (j := 1) hx rfl), own_cell h (itms_get (j := 2) hx rfl), own_cell h (itms_get (j := 3) hx rfl)⟩

set_option maxHeartbeats 1000000 in
set_option maxRecDepth 100000 in
theorem clk_events {v : Value} {l : List Itm} {w : World} (hv : ItmsRO w v l) (hl : l.length ≤ 3518437208880) :
    Calls Try.prog 64 #[v] w fun e w' => ∃ v', e = .returned v' ∧ St (fun _ => False) w w' [Row 85 4 v' (l.filter Itm.counts).length (itms (l.filter Itm.counts))] := by
  have kc := itms_clone hv (by omega)
  have hf : ∀ x ∈ l, x.fits := by obtain ⟨_, _, _, _, h, _⟩ := hv; exact h
  go_enter Try.func64, Try.ntmps64
  go_wp2_with (first
    | (go_at_call 81; go_must (refine kc.mono ?_; rintro e w1 ⟨v1, rfl, H1⟩; obtain ⟨S1, K1, G1⟩ := St.call (l1 := [_]) (l2 := []) H1))
    | (go_at_call 80; go_must (refine (itms_delete hf (by omega) K1).mono ?_; rintro e w2 ⟨v2, rfl, H2⟩; have H3 := G1 _ _ H2)))
  go_ret
  exact ⟨_, rfl, H3⟩

def Clk.weave (c : Clk) : List Itm → List Itm
  | [] => []
  | x :: l => x :: ((if (c.see x.time).2.2 = true then [⟨2, [], (c.see x.time).2.1, 0⟩] else []) ++ (c.see x.time).1.weave l)
theorem weave_snoc (x : Itm) : ∀ (l : List Itm) (c : Clk), c.weave (l ++ [x]) = c.weave l ++ (x :: (if ((c.run (l.map Itm.time)).see x.time).2.2 = true then [⟨2, [], ((c.run (l.map Itm.time)).see x.time).2.1, 0⟩] else []))
  | [], c => by simp [Clk.weave, Clk.run]
  | y :: l, c => by
    simp only [List.cons_append, Clk.weave, weave_snoc x l, List.map_cons]
    simp only [List.append_assoc]
    rfl
theorem weave_len : ∀ (l : List Itm) (c : Clk), (c.weave l).length ≤ 2 * l.length
  | [], c => by simp [Clk.weave]
  | x :: l, c => by
    have := weave_len l (c.see x.time).1
    simp only [Clk.weave, List.length_cons, List.length_append]
    split <;> simp <;> omega

theorem see_last {c : Clk} (h : c.ok) (t : Int) : ((c.see t).2.2 = true → c.last + 1 ≤ (c.see t).1.last) ∧ ((c.see t).2.2 = false → (c.see t).1.last = c.last) := by
  obtain ⟨_, ⟨h1, _⟩, _, ⟨h2, _⟩⟩ := h
  unfold Clk.see
  by_cases e1 : timeOk t = false
  · rw [if_pos e1]; exact ⟨fun h => absurd h (by simp), fun _ => rfl⟩
  · rw [if_neg e1]
    by_cases e2 : max c.top t - c.slack < 0 ∨ (0 ≤ c.last ∧ max c.top t - c.slack < c.last + c.step)
    · rw [if_pos e2]; exact ⟨fun h => absurd h (by simp), fun _ => rfl⟩
    · rw [if_neg e2]
      refine ⟨fun _ => ?_, fun h => absurd h (by simp)⟩
      simp only
      omega
theorem weave_room : ∀ (l : List Itm) (c : Clk), c.ok → ((c.weave l).length : Int) + c.last ≤ l.length + (c.run (l.map Itm.time)).last
  | [], c, _ => by simp [Clk.weave, Clk.run]
  | x :: l, c, h => by
    have ih := weave_room l (c.see x.time).1 (see_ok h x.time)
    obtain ⟨k1, k2⟩ := see_last h x.time
    have e : (c.run ((x :: l).map Itm.time)).last = ((c.see x.time).1.run (l.map Itm.time)).last := rfl
    rw [e]
    cases hb : (c.see x.time).2.2 with
    | false =>
      have := k2 hb
      simp only [Clk.weave, hb, List.length_cons, List.length_append, Bool.false_eq_true, if_false, List.length_nil]
      omega
    | true =>
      have := k1 hb
      simp only [Clk.weave, hb, List.length_cons, List.length_append, if_true, List.length_nil]
      omega
theorem weave_len2 {slack step : Int} (hg : clkGood slack step = true) (l : List Itm) : ((newClk slack step).weave l).length ≤ l.length + 1099511627777 := by
  have h1 := weave_room l _ (newClk_ok hg)
  have h2 := (run_ok (newClk_ok hg) (l.map Itm.time)).2.2.2.2
  have h3 : (newClk slack step).last = -1 := rfl
  omega

theorem clk_weave_bad {v : Value} {slack step : Int} (h : clkGood slack step = false) (w : World) : Calls Try.prog 42 #[.int .i64 slack, .int .i64 step, v] w fun e w' => e = .returned (.tuple #[.slice none 0 0, .int .i64 2]) ∧ w' = w := by
  have kn := clk_bad h w
  go_enter Try.func42, Try.ntmps42
  go_wp2_with (go_at_call 35; go_must (refine kn.mono ?_; rintro e w1 ⟨rfl, rfl⟩))
  go_ret2
  exact ⟨rfl, rfl⟩

set_option maxHeartbeats 4000000 in
set_option maxRecDepth 100000 in
theorem clk_weave {v : Value} {l : List Itm} {w : World} {slack step : Int} (hgood : clkGood slack step = true) (hv : ItmsRO w v l) (hl : l.length ≤ 3518437208880) :
    Calls Try.prog 42 #[.int .i64 slack, .int .i64 step, v] w fun e w' => ∃ v', e = .returned (.tuple #[v', .int .i64 0]) ∧ St (fun _ => False) w w' [Row 85 4 v' ((newClk slack step).weave (l.filter Itm.counts)).length (itms ((newClk slack step).weave (l.filter Itm.counts)))] := by
  have kn := clk_new hgood w
  have hok0 := newClk_ok hgood
  have hf : ∀ x ∈ l, x.fits := by obtain ⟨_, _, _, _, h, _⟩ := hv; exact h
  have hEf : ∀ x ∈ l.filter Itm.counts, x.fits := fun x hx => hf x (List.mem_filter.1 hx).1
  have hEl : (l.filter Itm.counts).length ≤ 3518437208880 := Nat.le_trans (List.length_filter_le _ _) hl
  have ke := fun (w' : World) (hk : Kept (fun _ => False) w w') => clk_events (hv.later hk) hl
  obtain ⟨E, hE⟩ : ∃ E, l.filter Itm.counts = E := ⟨_, rfl⟩
  rw [hE] at hEf hEl ke ⊢
  clear hE hf
  go_enter Try.func42, Try.ntmps42
  go_upto_block 1 with (first
    | (go_at_call 35; go_must (refine kn.mono ?_; rintro e w1 ⟨bc, rfl, H1⟩))
    | (go_at_call 64; go_must (refine (ke _ H1.kept).mono ?_; rintro e w2 ⟨ve, rfl, H2⟩; obtain ⟨ea, ec, rfl, hec, hea⟩ := slice_form' (H2.row 0 rfl); have H3 : St (fun _ => False) w w2 [Row 85 4 (.slice ea E.length ec) E.length (itms E), Blk bc (clkC (newClk slack step)) 87] := H1.call0 H2)))
  have H4 : St (fun _ => False) w w2 [Row 85 4 (.slice none 0 0) 0 (itms []), Row 85 4 (.slice ea E.length ec) E.length (itms E), Blk bc (clkC (newClk slack step)) 87] := H3.row_nil 85 4
  clear H1 H2 H3 ke kn
  go_loopw [10, 12, 13, 14, 27] (fun u _ _ _ j wr => ∃ (k : Nat) (c : Clk) (W : List Itm), k ≤ E.length ∧ j = .int .i64 k ∧ c = (newClk slack step).run ((E.take k).map Itm.time) ∧ W = (newClk slack step).weave (E.take k) ∧ St (fun _ => False) w wr [Row 85 4 u W.length (itms W), Row 85 4 (.slice ea E.length ec) E.length (itms E), Blk bc (clkC c) 87]) (fun _ _ _ _ j _ => E.length - (intOf j).toNat)
  case atStart => exact ⟨0, newClk slack step, [], by omega, rfl, rfl, rfl, H4⟩
  case round =>
    clear H4
    obtain ⟨k, c, W, hk, rfl, hc, hW, HM⟩ := hrel
    by_cases hkl : k < E.length
    · obtain ⟨ge, rfl⟩ := hea (by omega)
      obtain ⟨x, hx⟩ : ∃ x, E[k]? = some x := ⟨_, List.getElem?_eq_getElem hkl⟩
      obtain ⟨q0, q1, q2, q3⟩ := row_itms (HM.row 1 rfl) hx
      have hok : c.ok := by rw [hc]; exact run_ok hok0 _
      have hWl : W.length ≤ k + 1099511627777 := by
        have := weave_len2 hgood (E.take k)
        rw [hW]
        rw [List.length_take] at this
        omega
      have hcn := Lib.hid (show (newClk slack step).run ((E.take (k + 1)).map Itm.time) = (c.see x.time).1 by rw [take_snoc' hx, List.map_append, List.map_cons, List.map_nil, run_snoc, ← hc])
      have hwn := Lib.hid (show (newClk slack step).weave (E.take (k + 1)) = W ++ (x :: (if (c.see x.time).2.2 = true then [⟨2, [], (c.see x.time).2.1, 0⟩] else [])) by rw [take_snoc' hx, weave_snoc, ← hc, ← hW])
      have ks := fun (S' : Nat → Prop) (w' : World) (K : Sep w' [Blk bc (clkC c) 87] S') => clk_see (t := x.time) hok K
      obtain ⟨c', hc'⟩ : ∃ c', (c.see x.time).1 = c' := ⟨_, rfl⟩
      obtain ⟨mk, hmk⟩ : ∃ mk, (c.see x.time).2.1 = mk := ⟨_, rfl⟩
      obtain ⟨ok, hok'⟩ : ∃ ok, (c.see x.time).2.2 = ok := ⟨_, rfl⟩
      rw [hmk, hok'] at hwn ks
      simp only [hc'] at ks
      rw [hc'] at hcn
      clear hc hW hx hc' hmk hok' hok
      obtain ⟨xk, xy, xt, xv⟩ := x
      simp only at q0 q1 q2 q3 ks hwn
      unfold textV at q1
      have HA : St (fun _ => False) w _ [_, _, _, _] := HM.allocAt rfl #[.int .i64 xk, .string ⟨xy.toArray⟩, .int .i64 xt, .int .i64 xv] 85
      go_upto_region 8 with (fail)
      obtain ⟨wb, hwb⟩ : ∃ wb, wr.alloc (.cells #[.int .i64 xk, .string ⟨xy.toArray⟩, .int .i64 xt, .int .i64 xv] 85) = wb := ⟨_, rfl⟩
      obtain ⟨xb, hxb⟩ : ∃ xb, wr.heap.size = xb := ⟨_, rfl⟩
      rw [hwb, hxb] at HA
      try rw [hwb]
      try simp only [hxb]
      have HA2 : St (fun _ => False) w wb [Blk xb #[.int .i64 xk, .string ⟨xy.toArray⟩, .int .i64 xt, .int .i64 xv] 85, Row 85 4 u10 W.length (itms W), Row 85 4 (.slice (some ⟨ge, 0, none⟩) E.length ec) E.length (itms E), Blk bc (clkC c) 87] := HA
      clear hwb hxb q0 q1 q2 q3 HM HA
      have d0 := HA2.cell 0 0 rfl rfl
      have d1 := HA2.cell 0 1 rfl rfl
      have d2 := HA2.cell 0 2 rfl rfl
      have d3 := HA2.cell 0 3 rfl rfl
      go_upto_region 9 with (at_builtin; go_must (refine St.list_appw (HA2.skip _) 1 rfl rfl (.tmp 31) (.tmp 33) 65 rfl Try.underlying65 Try.info85 (by decide) rfl [.int .i64 xk, .string ⟨xy.toArray⟩, .int .i64 xt, .int .i64 xv] rfl rfl (new_cells #[.int .i64 xk, .string ⟨xy.toArray⟩, .int .i64 xt, .int .i64 xv] _) (by simp [Value.oneCell']) (by omega) (by omega) ?_; intro g5 cap5 w5 H5 hz5; have d2 := H5.cell 0 2 rfl rfl))
      clear d0 d1 d3 HA2
      cases ok with
      | false =>
        go_wp2_with (go_at_call 37; go_must (obtain ⟨S1, K1, G1⟩ := St.call (l1 := [_]) (H5.pick [3, 0, 1, 2]); refine (ks _ _ K1).mono ?_; rintro e w6 ⟨rfl, H6⟩; have H7 : St (fun _ => False) w w6 [_, _, _, _] := G1 _ _ H6))
        go_roundw
        case rel =>
          refine ⟨k + 1, c', W ++ [⟨xk, xy, xt, xv⟩], by omega, by go_num, hcn.out.symm, by rw [hwn.out]; rfl, ?_⟩
          rw [itms_app, itms_one, List.length_append]
          exact H7.pick [2, 3, 0]
        case measure => simp [intOf]; omega
      | true =>
        go_wp2_with (first
          | (go_at_call 37; go_must (obtain ⟨S1, K1, G1⟩ := St.call (l1 := [_]) (H5.pick [3, 0, 1, 2]); refine (ks _ _ K1).mono ?_; rintro e w6 ⟨rfl, H6⟩; have H7 : St (fun _ => False) w w6 [_, _, _, _] := G1 _ _ H6))
          | (at_builtin; go_must (refine St.list_appw (H7.skip _) 2 rfl rfl (.tmp 43) (.tmp 46) 65 rfl Try.underlying65 Try.info85 (by decide) rfl [.int .i64 2, .string ⟨#[]⟩, .int .i64 mk, .int .i64 0] rfl rfl (new_cells #[.int .i64 2, .string ⟨#[]⟩, .int .i64 mk, .int .i64 0] _) (by simp [Value.oneCell']) (by omega) (by omega) ?_; intro g8 cap8 w8 H8 hz8)))
        go_roundw
        case rel =>
          refine ⟨k + 1, c', W ++ [⟨xk, xy, xt, xv⟩, ⟨2, [], mk, 0⟩], by omega, by go_num, hcn.out.symm, by rw [hwn.out]; rfl, ?_⟩
          have e1 : itms (W ++ [⟨xk, xy, xt, xv⟩, ⟨2, [], mk, 0⟩]) = itms W ++ [.int .i64 xk, .string ⟨xy.toArray⟩, .int .i64 xt, .int .i64 xv] ++ [.int .i64 2, .string ⟨#[]⟩, .int .i64 mk, .int .i64 0] := by rw [itms_app]; simp [itms, textV]
          rw [e1, List.length_append]
          exact H8.pick [2, 3, 0]
        case measure => simp [intOf]; omega
    · obtain rfl : k = E.length := by omega
      rw [List.take_length] at hW
      have hWh := Lib.hid hW
      clear hW
      obtain ⟨ua, uc, rfl, _, _⟩ := slice_form' (HM.row 0 rfl)
      go_wp2
      go_ret2
      rw [← hWh.out]
      exact ⟨_, rfl, St.take (l1 := [_]) HM⟩
end Go.Proofs.Ytoffcoegghigoaa
